/-
  The facts on types and functions of this seat's program, written by a program of the prover's own out of the dump. Conditions: none.
-/
import Derived.Test.YtbhgbfhgdccghaaGreatCoA
import Derived.Test.YtbhgbfhgdccghaaGreatProg
import Derived.KernelRfl
set_option linter.all false
namespace Go.Wm
open Go.Proofs
set_option maxRecDepth 100000
theorem tyi {P : Program} {t : TypeId} {sz bs : Nat} {z : Value} (h : (P.info? t).map (fun i => (i.size, i.bytes, i.zero)) = some (sz, bs, some z)) : TyI P t sz bs z := by
  cases e : P.info? t with
  | none => simp [e] at h
  | some i => simp only [e, Option.map_some, Option.some.injEq, Prod.mk.injEq] at h; exact ⟨i, e, h.1, h.2.1, h.2.2⟩
theorem fnok {P : Program} {f : FuncId} (h : (P.funcs[f]?).map (fun fn => (fn.name == "runtime.NumGoroutine", fn.body.isNone)) = some (false, false)) : FnOk P f := by
  cases e : P.funcs[f]? with
  | none => simp [e] at h
  | some i => simp only [e, Option.map_some, Option.some.injEq, Prod.mk.injEq] at h; exact ⟨i, e, h.1, h.2⟩
theorem fldok {P : Program} {t f off sz : Nat} {ag : Bool} {fs : Array Field} {fd : Field} {i : TypeInfo} {d : TypeDesc} (h1 : P.underlying t = some (.struct fs)) (h2 : fs[f]? = some fd) (h3 : fd.offset = off) (h4 : P.info? fd.type = some i) (h5 : i.size = sz) (h6 : P.underlying fd.type = some d) (h7 : aggD d = ag) : Fld P t f off sz ag := ⟨fs, fd, d, i, h1, h2, h3, h4, h5, h6, h7⟩
instance : Mixed Tryz.prog := ⟨by kernel_rfl⟩
instance : TyU Tryz.prog 2 (.int .i64) := ⟨Tryz.underlying2⟩
instance : TyI Tryz.prog 2 1 8 (.int .i64 (0)) := tyi (by kernel_rfl)
instance : TyU Tryz.prog 3 (.int .i64) := ⟨Tryz.underlying3⟩
instance : TyI Tryz.prog 3 1 8 (.int .i64 (0)) := tyi (by kernel_rfl)
instance : TyU Tryz.prog 4 .bool := ⟨Tryz.underlying4⟩
instance : TyI Tryz.prog 4 1 1 (.bool false) := tyi (by kernel_rfl)
instance : TyU Tryz.prog 5 (.int .u8) := ⟨Tryz.underlying5⟩
instance : TyI Tryz.prog 5 1 1 (.int .u8 (0)) := tyi (by kernel_rfl)
instance : TyU Tryz.prog 6 (.int .u8) := ⟨Tryz.underlying6⟩
instance : TyI Tryz.prog 6 1 1 (.int .u8 (0)) := tyi (by kernel_rfl)
instance : TyU Tryz.prog 9 .string := ⟨Tryz.underlying9⟩
instance : TyI Tryz.prog 9 1 16 (.string ByteArray.empty) := tyi (by kernel_rfl)
instance : TyU Tryz.prog 10 .string := ⟨Tryz.underlying10⟩
instance : TyI Tryz.prog 10 1 16 (.string ByteArray.empty) := tyi (by kernel_rfl)
instance : TyU Tryz.prog 11 .string := ⟨Tryz.underlying11⟩
instance : TyI Tryz.prog 11 1 16 (.string ByteArray.empty) := tyi (by kernel_rfl)
instance : TyU Tryz.prog 12 (.int .u64) := ⟨Tryz.underlying12⟩
instance : TyI Tryz.prog 12 1 8 (.int .u64 (0)) := tyi (by kernel_rfl)
instance : TyU Tryz.prog 15 (.pointer 129) := ⟨Tryz.underlying15⟩
instance : TyI Tryz.prog 15 1 8 (.pointer none) := tyi (by kernel_rfl)
instance : TyU Tryz.prog 16 (.pointer 132) := ⟨Tryz.underlying16⟩
instance : TyI Tryz.prog 16 1 8 (.pointer none) := tyi (by kernel_rfl)
instance : TyU Tryz.prog 17 (.pointer 142) := ⟨Tryz.underlying17⟩
instance : TyI Tryz.prog 17 1 8 (.pointer none) := tyi (by kernel_rfl)
instance : TyU Tryz.prog 21 (.int .i32) := ⟨Tryz.underlying21⟩
instance : TyI Tryz.prog 21 1 4 (.int .i32 (0)) := tyi (by kernel_rfl)
instance : TyU Tryz.prog 22 (.slice 44) := ⟨Tryz.underlying22⟩
instance : TyI Tryz.prog 22 1 24 (.slice none 0 0) := tyi (by kernel_rfl)
instance : TyU Tryz.prog 23 (.struct (Tryz.prog.fieldsOf 23)) := ⟨by kernel_rfl⟩
instance : TyI Tryz.prog 23 4 56 (.agg #[(.string ByteArray.empty), (.int .i64 (0)), (.int .i64 (0)), (.slice none 0 0)]) := tyi (by kernel_rfl)
instance : Fld Tryz.prog 23 0 0 1 false := fldok Tryz.underlying23 rfl rfl (by kernel_rfl) (i := ((Tryz.prog.info? 9).getD default)) (by kernel_rfl) Tryz.underlying9 rfl
instance : Fld Tryz.prog 23 1 1 1 false := fldok Tryz.underlying23 rfl rfl (by kernel_rfl) (i := ((Tryz.prog.info? 3).getD default)) (by kernel_rfl) Tryz.underlying3 rfl
instance : Fld Tryz.prog 23 2 2 1 false := fldok Tryz.underlying23 rfl rfl (by kernel_rfl) (i := ((Tryz.prog.info? 3).getD default)) (by kernel_rfl) Tryz.underlying3 rfl
instance : Fld Tryz.prog 23 3 3 1 false := fldok Tryz.underlying23 rfl rfl (by kernel_rfl) (i := ((Tryz.prog.info? 22).getD default)) (by kernel_rfl) Tryz.underlying22 rfl
instance : Bld Tryz.prog 23 [(0, 1), (1, 1), (2, 1), (3, 1)] [(.string ByteArray.empty), (.int .i64 (0)), (.int .i64 (0)), (.slice none 0 0)] := by
  refine ⟨_, ((Tryz.prog.info? 23).getD default), _, Tryz.underlying23, by kernel_rfl, (by kernel_rfl : _ = some (.agg #[(.string ByteArray.empty), (.int .i64 (0)), (.int .i64 (0)), (.slice none 0 0)])), rfl, fun w => by kernel_rfl⟩
instance : TyU Tryz.prog 24 (.struct (Tryz.prog.fieldsOf 24)) := ⟨by kernel_rfl⟩
instance : TyI Tryz.prog 24 4 56 (.agg #[(.string ByteArray.empty), (.int .i64 (0)), (.int .i64 (0)), (.slice none 0 0)]) := tyi (by kernel_rfl)
instance : Fld Tryz.prog 24 0 0 1 false := fldok Tryz.underlying24 rfl rfl (by kernel_rfl) (i := ((Tryz.prog.info? 9).getD default)) (by kernel_rfl) Tryz.underlying9 rfl
instance : Fld Tryz.prog 24 1 1 1 false := fldok Tryz.underlying24 rfl rfl (by kernel_rfl) (i := ((Tryz.prog.info? 3).getD default)) (by kernel_rfl) Tryz.underlying3 rfl
instance : Fld Tryz.prog 24 2 2 1 false := fldok Tryz.underlying24 rfl rfl (by kernel_rfl) (i := ((Tryz.prog.info? 3).getD default)) (by kernel_rfl) Tryz.underlying3 rfl
instance : Fld Tryz.prog 24 3 3 1 false := fldok Tryz.underlying24 rfl rfl (by kernel_rfl) (i := ((Tryz.prog.info? 22).getD default)) (by kernel_rfl) Tryz.underlying22 rfl
instance : Bld Tryz.prog 24 [(0, 1), (1, 1), (2, 1), (3, 1)] [(.string ByteArray.empty), (.int .i64 (0)), (.int .i64 (0)), (.slice none 0 0)] := by
  refine ⟨_, ((Tryz.prog.info? 24).getD default), _, Tryz.underlying24, by kernel_rfl, (by kernel_rfl : _ = some (.agg #[(.string ByteArray.empty), (.int .i64 (0)), (.int .i64 (0)), (.slice none 0 0)])), rfl, fun w => by kernel_rfl⟩
instance : TyU Tryz.prog 25 (.slice 53) := ⟨Tryz.underlying25⟩
instance : TyI Tryz.prog 25 1 24 (.slice none 0 0) := tyi (by kernel_rfl)
instance : TyU Tryz.prog 28 (.int .i64) := ⟨Tryz.underlying28⟩
instance : TyI Tryz.prog 28 1 8 (.int .i64 (0)) := tyi (by kernel_rfl)
instance : TyU Tryz.prog 42 (.slice 9) := ⟨Tryz.underlying42⟩
instance : TyI Tryz.prog 42 1 24 (.slice none 0 0) := tyi (by kernel_rfl)
instance : TyU Tryz.prog 43 (.struct (Tryz.prog.fieldsOf 43)) := ⟨by kernel_rfl⟩
instance : TyI Tryz.prog 43 6 96 (.agg #[(.string ByteArray.empty), (.string ByteArray.empty), (.slice none 0 0), (.slice none 0 0), (.bool false), (.int .i64 (0))]) := tyi (by kernel_rfl)
instance : Fld Tryz.prog 43 0 0 1 false := fldok Tryz.underlying43 rfl rfl (by kernel_rfl) (i := ((Tryz.prog.info? 9).getD default)) (by kernel_rfl) Tryz.underlying9 rfl
instance : Fld Tryz.prog 43 1 1 1 false := fldok Tryz.underlying43 rfl rfl (by kernel_rfl) (i := ((Tryz.prog.info? 9).getD default)) (by kernel_rfl) Tryz.underlying9 rfl
instance : Fld Tryz.prog 43 2 2 1 false := fldok Tryz.underlying43 rfl rfl (by kernel_rfl) (i := ((Tryz.prog.info? 42).getD default)) (by kernel_rfl) Tryz.underlying42 rfl
instance : Fld Tryz.prog 43 3 3 1 false := fldok Tryz.underlying43 rfl rfl (by kernel_rfl) (i := ((Tryz.prog.info? 25).getD default)) (by kernel_rfl) Tryz.underlying25 rfl
instance : Fld Tryz.prog 43 4 4 1 false := fldok Tryz.underlying43 rfl rfl (by kernel_rfl) (i := ((Tryz.prog.info? 4).getD default)) (by kernel_rfl) Tryz.underlying4 rfl
instance : Fld Tryz.prog 43 5 5 1 false := fldok Tryz.underlying43 rfl rfl (by kernel_rfl) (i := ((Tryz.prog.info? 3).getD default)) (by kernel_rfl) Tryz.underlying3 rfl
instance : Bld Tryz.prog 43 [(0, 1), (1, 1), (2, 1), (3, 1), (4, 1), (5, 1)] [(.string ByteArray.empty), (.string ByteArray.empty), (.slice none 0 0), (.slice none 0 0), (.bool false), (.int .i64 (0))] := by
  refine ⟨_, ((Tryz.prog.info? 43).getD default), _, Tryz.underlying43, by kernel_rfl, (by kernel_rfl : _ = some (.agg #[(.string ByteArray.empty), (.string ByteArray.empty), (.slice none 0 0), (.slice none 0 0), (.bool false), (.int .i64 (0))])), rfl, fun w => by kernel_rfl⟩
instance : TyU Tryz.prog 44 (.struct (Tryz.prog.fieldsOf 44)) := ⟨by kernel_rfl⟩
instance : TyI Tryz.prog 44 6 96 (.agg #[(.string ByteArray.empty), (.string ByteArray.empty), (.slice none 0 0), (.slice none 0 0), (.bool false), (.int .i64 (0))]) := tyi (by kernel_rfl)
instance : Fld Tryz.prog 44 0 0 1 false := fldok Tryz.underlying44 rfl rfl (by kernel_rfl) (i := ((Tryz.prog.info? 9).getD default)) (by kernel_rfl) Tryz.underlying9 rfl
instance : Fld Tryz.prog 44 1 1 1 false := fldok Tryz.underlying44 rfl rfl (by kernel_rfl) (i := ((Tryz.prog.info? 9).getD default)) (by kernel_rfl) Tryz.underlying9 rfl
instance : Fld Tryz.prog 44 2 2 1 false := fldok Tryz.underlying44 rfl rfl (by kernel_rfl) (i := ((Tryz.prog.info? 42).getD default)) (by kernel_rfl) Tryz.underlying42 rfl
instance : Fld Tryz.prog 44 3 3 1 false := fldok Tryz.underlying44 rfl rfl (by kernel_rfl) (i := ((Tryz.prog.info? 25).getD default)) (by kernel_rfl) Tryz.underlying25 rfl
instance : Fld Tryz.prog 44 4 4 1 false := fldok Tryz.underlying44 rfl rfl (by kernel_rfl) (i := ((Tryz.prog.info? 4).getD default)) (by kernel_rfl) Tryz.underlying4 rfl
instance : Fld Tryz.prog 44 5 5 1 false := fldok Tryz.underlying44 rfl rfl (by kernel_rfl) (i := ((Tryz.prog.info? 3).getD default)) (by kernel_rfl) Tryz.underlying3 rfl
instance : Bld Tryz.prog 44 [(0, 1), (1, 1), (2, 1), (3, 1), (4, 1), (5, 1)] [(.string ByteArray.empty), (.string ByteArray.empty), (.slice none 0 0), (.slice none 0 0), (.bool false), (.int .i64 (0))] := by
  refine ⟨_, ((Tryz.prog.info? 44).getD default), _, Tryz.underlying44, by kernel_rfl, (by kernel_rfl : _ = some (.agg #[(.string ByteArray.empty), (.string ByteArray.empty), (.slice none 0 0), (.slice none 0 0), (.bool false), (.int .i64 (0))])), rfl, fun w => by kernel_rfl⟩
instance : TyU Tryz.prog 47 (.pointer 59) := ⟨Tryz.underlying47⟩
instance : TyI Tryz.prog 47 1 8 (.pointer none) := tyi (by kernel_rfl)
instance : TyU Tryz.prog 52 (.struct (Tryz.prog.fieldsOf 52)) := ⟨by kernel_rfl⟩
instance : TyI Tryz.prog 52 3 32 (.agg #[(.string ByteArray.empty), (.int .i64 (0)), (.int .i64 (0))]) := tyi (by kernel_rfl)
instance : Fld Tryz.prog 52 0 0 1 false := fldok Tryz.underlying52 rfl rfl (by kernel_rfl) (i := ((Tryz.prog.info? 9).getD default)) (by kernel_rfl) Tryz.underlying9 rfl
instance : Fld Tryz.prog 52 1 1 1 false := fldok Tryz.underlying52 rfl rfl (by kernel_rfl) (i := ((Tryz.prog.info? 3).getD default)) (by kernel_rfl) Tryz.underlying3 rfl
instance : Fld Tryz.prog 52 2 2 1 false := fldok Tryz.underlying52 rfl rfl (by kernel_rfl) (i := ((Tryz.prog.info? 3).getD default)) (by kernel_rfl) Tryz.underlying3 rfl
instance : Bld Tryz.prog 52 [(0, 1), (1, 1), (2, 1)] [(.string ByteArray.empty), (.int .i64 (0)), (.int .i64 (0))] := by
  refine ⟨_, ((Tryz.prog.info? 52).getD default), _, Tryz.underlying52, by kernel_rfl, (by kernel_rfl : _ = some (.agg #[(.string ByteArray.empty), (.int .i64 (0)), (.int .i64 (0))])), rfl, fun w => by kernel_rfl⟩
instance : Flat Tryz.prog 52 [(9, .string), (3, (.int .i64)), (3, (.int .i64))] := by
  refine ⟨by kernel_rfl, by kernel_rfl, by kernel_rfl, by kernel_rfl, ?_⟩
  simp only [List.forall_mem_cons]
  exact ⟨⟨Tryz.underlying9, rfl⟩, ⟨Tryz.underlying3, rfl⟩, ⟨Tryz.underlying3, rfl⟩, fun x hx => by cases hx⟩
instance : TyU Tryz.prog 53 (.struct (Tryz.prog.fieldsOf 53)) := ⟨by kernel_rfl⟩
instance : TyI Tryz.prog 53 3 32 (.agg #[(.string ByteArray.empty), (.int .i64 (0)), (.int .i64 (0))]) := tyi (by kernel_rfl)
instance : Fld Tryz.prog 53 0 0 1 false := fldok Tryz.underlying53 rfl rfl (by kernel_rfl) (i := ((Tryz.prog.info? 9).getD default)) (by kernel_rfl) Tryz.underlying9 rfl
instance : Fld Tryz.prog 53 1 1 1 false := fldok Tryz.underlying53 rfl rfl (by kernel_rfl) (i := ((Tryz.prog.info? 3).getD default)) (by kernel_rfl) Tryz.underlying3 rfl
instance : Fld Tryz.prog 53 2 2 1 false := fldok Tryz.underlying53 rfl rfl (by kernel_rfl) (i := ((Tryz.prog.info? 3).getD default)) (by kernel_rfl) Tryz.underlying3 rfl
instance : Bld Tryz.prog 53 [(0, 1), (1, 1), (2, 1)] [(.string ByteArray.empty), (.int .i64 (0)), (.int .i64 (0))] := by
  refine ⟨_, ((Tryz.prog.info? 53).getD default), _, Tryz.underlying53, by kernel_rfl, (by kernel_rfl : _ = some (.agg #[(.string ByteArray.empty), (.int .i64 (0)), (.int .i64 (0))])), rfl, fun w => by kernel_rfl⟩
instance : Flat Tryz.prog 53 [(9, .string), (3, (.int .i64)), (3, (.int .i64))] := by
  refine ⟨by kernel_rfl, by kernel_rfl, by kernel_rfl, by kernel_rfl, ?_⟩
  simp only [List.forall_mem_cons]
  exact ⟨⟨Tryz.underlying9, rfl⟩, ⟨Tryz.underlying3, rfl⟩, ⟨Tryz.underlying3, rfl⟩, fun x hx => by cases hx⟩
instance : TyU Tryz.prog 58 (.struct (Tryz.prog.fieldsOf 58)) := ⟨by kernel_rfl⟩
instance : TyI Tryz.prog 58 5 64 (.agg #[(.string ByteArray.empty), (.int .i64 (0)), (.int .i64 (0)), (.slice none 0 0), (.int .i64 (0))]) := tyi (by kernel_rfl)
instance : Fld Tryz.prog 58 0 0 4 true := fldok Tryz.underlying58 rfl rfl (by kernel_rfl) (i := ((Tryz.prog.info? 24).getD default)) (by kernel_rfl) Tryz.underlying24 rfl
instance : Fld Tryz.prog 58 1 4 1 false := fldok Tryz.underlying58 rfl rfl (by kernel_rfl) (i := ((Tryz.prog.info? 28).getD default)) (by kernel_rfl) Tryz.underlying28 rfl
instance : Bld Tryz.prog 58 [(0, 4), (4, 1)] [(.string ByteArray.empty), (.int .i64 (0)), (.int .i64 (0)), (.slice none 0 0), (.int .i64 (0))] := by
  refine ⟨_, ((Tryz.prog.info? 58).getD default), _, Tryz.underlying58, by kernel_rfl, (by kernel_rfl : _ = some (.agg #[(.string ByteArray.empty), (.int .i64 (0)), (.int .i64 (0)), (.slice none 0 0), (.int .i64 (0))])), rfl, fun w => by kernel_rfl⟩
instance : TyU Tryz.prog 59 (.struct (Tryz.prog.fieldsOf 59)) := ⟨by kernel_rfl⟩
instance : TyI Tryz.prog 59 5 64 (.agg #[(.string ByteArray.empty), (.int .i64 (0)), (.int .i64 (0)), (.slice none 0 0), (.int .i64 (0))]) := tyi (by kernel_rfl)
instance : Fld Tryz.prog 59 0 0 4 true := fldok Tryz.underlying59 rfl rfl (by kernel_rfl) (i := ((Tryz.prog.info? 24).getD default)) (by kernel_rfl) Tryz.underlying24 rfl
instance : Fld Tryz.prog 59 1 4 1 false := fldok Tryz.underlying59 rfl rfl (by kernel_rfl) (i := ((Tryz.prog.info? 28).getD default)) (by kernel_rfl) Tryz.underlying28 rfl
instance : Bld Tryz.prog 59 [(0, 4), (4, 1)] [(.string ByteArray.empty), (.int .i64 (0)), (.int .i64 (0)), (.slice none 0 0), (.int .i64 (0))] := by
  refine ⟨_, ((Tryz.prog.info? 59).getD default), _, Tryz.underlying59, by kernel_rfl, (by kernel_rfl : _ = some (.agg #[(.string ByteArray.empty), (.int .i64 (0)), (.int .i64 (0)), (.slice none 0 0), (.int .i64 (0))])), rfl, fun w => by kernel_rfl⟩
instance : TyU Tryz.prog 60 (.slice 25) := ⟨Tryz.underlying60⟩
instance : TyI Tryz.prog 60 1 24 (.slice none 0 0) := tyi (by kernel_rfl)
instance : TyU Tryz.prog 85 (.map 9 3) := ⟨Tryz.underlying85⟩
instance : TyI Tryz.prog 85 1 8 (.map none) := tyi (by kernel_rfl)
instance : TyU Tryz.prog 86 (.map 53 3) := ⟨Tryz.underlying86⟩
instance : TyI Tryz.prog 86 1 8 (.map none) := tyi (by kernel_rfl)
instance : TyU Tryz.prog 93 (.pointer 96) := ⟨Tryz.underlying93⟩
instance : TyI Tryz.prog 93 1 8 (.pointer none) := tyi (by kernel_rfl)
instance : TyU Tryz.prog 94 (.slice 3) := ⟨Tryz.underlying94⟩
instance : TyI Tryz.prog 94 1 24 (.slice none 0 0) := tyi (by kernel_rfl)
instance : TyU Tryz.prog 95 (.struct (Tryz.prog.fieldsOf 95)) := ⟨by kernel_rfl⟩
instance : TyI Tryz.prog 95 4 96 (.agg #[(.slice none 0 0), (.slice none 0 0), (.slice none 0 0), (.slice none 0 0)]) := tyi (by kernel_rfl)
instance : Fld Tryz.prog 95 0 0 1 false := fldok Tryz.underlying95 rfl rfl (by kernel_rfl) (i := ((Tryz.prog.info? 22).getD default)) (by kernel_rfl) Tryz.underlying22 rfl
instance : Fld Tryz.prog 95 1 1 1 false := fldok Tryz.underlying95 rfl rfl (by kernel_rfl) (i := ((Tryz.prog.info? 25).getD default)) (by kernel_rfl) Tryz.underlying25 rfl
instance : Fld Tryz.prog 95 2 2 1 false := fldok Tryz.underlying95 rfl rfl (by kernel_rfl) (i := ((Tryz.prog.info? 94).getD default)) (by kernel_rfl) Tryz.underlying94 rfl
instance : Fld Tryz.prog 95 3 3 1 false := fldok Tryz.underlying95 rfl rfl (by kernel_rfl) (i := ((Tryz.prog.info? 94).getD default)) (by kernel_rfl) Tryz.underlying94 rfl
instance : Bld Tryz.prog 95 [(0, 1), (1, 1), (2, 1), (3, 1)] [(.slice none 0 0), (.slice none 0 0), (.slice none 0 0), (.slice none 0 0)] := by
  refine ⟨_, ((Tryz.prog.info? 95).getD default), _, Tryz.underlying95, by kernel_rfl, (by kernel_rfl : _ = some (.agg #[(.slice none 0 0), (.slice none 0 0), (.slice none 0 0), (.slice none 0 0)])), rfl, fun w => by kernel_rfl⟩
instance : TyU Tryz.prog 96 (.struct (Tryz.prog.fieldsOf 96)) := ⟨by kernel_rfl⟩
instance : TyI Tryz.prog 96 4 96 (.agg #[(.slice none 0 0), (.slice none 0 0), (.slice none 0 0), (.slice none 0 0)]) := tyi (by kernel_rfl)
instance : Fld Tryz.prog 96 0 0 1 false := fldok Tryz.underlying96 rfl rfl (by kernel_rfl) (i := ((Tryz.prog.info? 22).getD default)) (by kernel_rfl) Tryz.underlying22 rfl
instance : Fld Tryz.prog 96 1 1 1 false := fldok Tryz.underlying96 rfl rfl (by kernel_rfl) (i := ((Tryz.prog.info? 25).getD default)) (by kernel_rfl) Tryz.underlying25 rfl
instance : Fld Tryz.prog 96 2 2 1 false := fldok Tryz.underlying96 rfl rfl (by kernel_rfl) (i := ((Tryz.prog.info? 94).getD default)) (by kernel_rfl) Tryz.underlying94 rfl
instance : Fld Tryz.prog 96 3 3 1 false := fldok Tryz.underlying96 rfl rfl (by kernel_rfl) (i := ((Tryz.prog.info? 94).getD default)) (by kernel_rfl) Tryz.underlying94 rfl
instance : Bld Tryz.prog 96 [(0, 1), (1, 1), (2, 1), (3, 1)] [(.slice none 0 0), (.slice none 0 0), (.slice none 0 0), (.slice none 0 0)] := by
  refine ⟨_, ((Tryz.prog.info? 96).getD default), _, Tryz.underlying96, by kernel_rfl, (by kernel_rfl : _ = some (.agg #[(.slice none 0 0), (.slice none 0 0), (.slice none 0 0), (.slice none 0 0)])), rfl, fun w => by kernel_rfl⟩
instance : TyU Tryz.prog 101 (.map 53 103) := ⟨Tryz.underlying101⟩
instance : TyI Tryz.prog 101 1 8 (.map none) := tyi (by kernel_rfl)
instance : TyU Tryz.prog 103 (.map 3 4) := ⟨Tryz.underlying103⟩
instance : TyI Tryz.prog 103 1 8 (.map none) := tyi (by kernel_rfl)
instance : TyU Tryz.prog 118 (.int .u64) := ⟨Tryz.underlying118⟩
instance : TyI Tryz.prog 118 1 8 (.int .u64 (0)) := tyi (by kernel_rfl)
instance : TyU Tryz.prog 130 (.array 0 16) := ⟨Tryz.underlying130⟩
instance : TyI Tryz.prog 130 0 0 (.agg #[]) := tyi (by kernel_rfl)
instance : TyU Tryz.prog 134 (.int .u32) := ⟨Tryz.underlying134⟩
instance : TyI Tryz.prog 134 1 4 (.int .u32 (0)) := tyi (by kernel_rfl)
instance : TyU Tryz.prog 135 (.int .u8) := ⟨Tryz.underlying135⟩
instance : TyI Tryz.prog 135 1 1 (.int .u8 (0)) := tyi (by kernel_rfl)
instance : TyU Tryz.prog 136 (.int .u8) := ⟨Tryz.underlying136⟩
instance : TyI Tryz.prog 136 1 1 (.int .u8 (0)) := tyi (by kernel_rfl)
instance : TyU Tryz.prog 138 (.pointer 5) := ⟨Tryz.underlying138⟩
instance : TyI Tryz.prog 138 1 8 (.pointer none) := tyi (by kernel_rfl)
instance : TyU Tryz.prog 139 (.int .i32) := ⟨Tryz.underlying139⟩
instance : TyI Tryz.prog 139 1 4 (.int .i32 (0)) := tyi (by kernel_rfl)
instance : TyU Tryz.prog 140 (.int .i32) := ⟨Tryz.underlying140⟩
instance : TyI Tryz.prog 140 1 4 (.int .i32 (0)) := tyi (by kernel_rfl)
instance : TyU Tryz.prog 141 (.struct (Tryz.prog.fieldsOf 141)) := ⟨by kernel_rfl⟩
instance : TyI Tryz.prog 141 11 48 (.agg #[(.int .u64 (0)), (.int .u64 (0)), (.int .u32 (0)), (.int .u8 (0)), (.int .u8 (0)), (.int .u8 (0)), (.int .u8 (0)), .nilFunc, (.pointer none), (.int .i32 (0)), (.int .i32 (0))]) := tyi (by kernel_rfl)
instance : Fld Tryz.prog 141 0 0 1 false := fldok Tryz.underlying141 rfl rfl (by kernel_rfl) (i := ((Tryz.prog.info? 12).getD default)) (by kernel_rfl) Tryz.underlying12 rfl
instance : Fld Tryz.prog 141 1 1 1 false := fldok Tryz.underlying141 rfl rfl (by kernel_rfl) (i := ((Tryz.prog.info? 12).getD default)) (by kernel_rfl) Tryz.underlying12 rfl
instance : Fld Tryz.prog 141 2 2 1 false := fldok Tryz.underlying141 rfl rfl (by kernel_rfl) (i := ((Tryz.prog.info? 134).getD default)) (by kernel_rfl) Tryz.underlying134 rfl
instance : Fld Tryz.prog 141 3 3 1 false := fldok Tryz.underlying141 rfl rfl (by kernel_rfl) (i := ((Tryz.prog.info? 135).getD default)) (by kernel_rfl) Tryz.underlying135 rfl
instance : Fld Tryz.prog 141 4 4 1 false := fldok Tryz.underlying141 rfl rfl (by kernel_rfl) (i := ((Tryz.prog.info? 5).getD default)) (by kernel_rfl) Tryz.underlying5 rfl
instance : Fld Tryz.prog 141 5 5 1 false := fldok Tryz.underlying141 rfl rfl (by kernel_rfl) (i := ((Tryz.prog.info? 5).getD default)) (by kernel_rfl) Tryz.underlying5 rfl
instance : Fld Tryz.prog 141 6 6 1 false := fldok Tryz.underlying141 rfl rfl (by kernel_rfl) (i := ((Tryz.prog.info? 136).getD default)) (by kernel_rfl) Tryz.underlying136 rfl
instance : Fld Tryz.prog 141 8 8 1 false := fldok Tryz.underlying141 rfl rfl (by kernel_rfl) (i := ((Tryz.prog.info? 138).getD default)) (by kernel_rfl) Tryz.underlying138 rfl
instance : Fld Tryz.prog 141 9 9 1 false := fldok Tryz.underlying141 rfl rfl (by kernel_rfl) (i := ((Tryz.prog.info? 139).getD default)) (by kernel_rfl) Tryz.underlying139 rfl
instance : Fld Tryz.prog 141 10 10 1 false := fldok Tryz.underlying141 rfl rfl (by kernel_rfl) (i := ((Tryz.prog.info? 140).getD default)) (by kernel_rfl) Tryz.underlying140 rfl
instance : TyU Tryz.prog 142 (.struct (Tryz.prog.fieldsOf 142)) := ⟨by kernel_rfl⟩
instance : TyI Tryz.prog 142 11 48 (.agg #[(.int .u64 (0)), (.int .u64 (0)), (.int .u32 (0)), (.int .u8 (0)), (.int .u8 (0)), (.int .u8 (0)), (.int .u8 (0)), .nilFunc, (.pointer none), (.int .i32 (0)), (.int .i32 (0))]) := tyi (by kernel_rfl)
instance : Fld Tryz.prog 142 0 0 1 false := fldok Tryz.underlying142 rfl rfl (by kernel_rfl) (i := ((Tryz.prog.info? 12).getD default)) (by kernel_rfl) Tryz.underlying12 rfl
instance : Fld Tryz.prog 142 1 1 1 false := fldok Tryz.underlying142 rfl rfl (by kernel_rfl) (i := ((Tryz.prog.info? 12).getD default)) (by kernel_rfl) Tryz.underlying12 rfl
instance : Fld Tryz.prog 142 2 2 1 false := fldok Tryz.underlying142 rfl rfl (by kernel_rfl) (i := ((Tryz.prog.info? 134).getD default)) (by kernel_rfl) Tryz.underlying134 rfl
instance : Fld Tryz.prog 142 3 3 1 false := fldok Tryz.underlying142 rfl rfl (by kernel_rfl) (i := ((Tryz.prog.info? 135).getD default)) (by kernel_rfl) Tryz.underlying135 rfl
instance : Fld Tryz.prog 142 4 4 1 false := fldok Tryz.underlying142 rfl rfl (by kernel_rfl) (i := ((Tryz.prog.info? 5).getD default)) (by kernel_rfl) Tryz.underlying5 rfl
instance : Fld Tryz.prog 142 5 5 1 false := fldok Tryz.underlying142 rfl rfl (by kernel_rfl) (i := ((Tryz.prog.info? 5).getD default)) (by kernel_rfl) Tryz.underlying5 rfl
instance : Fld Tryz.prog 142 6 6 1 false := fldok Tryz.underlying142 rfl rfl (by kernel_rfl) (i := ((Tryz.prog.info? 136).getD default)) (by kernel_rfl) Tryz.underlying136 rfl
instance : Fld Tryz.prog 142 8 8 1 false := fldok Tryz.underlying142 rfl rfl (by kernel_rfl) (i := ((Tryz.prog.info? 138).getD default)) (by kernel_rfl) Tryz.underlying138 rfl
instance : Fld Tryz.prog 142 9 9 1 false := fldok Tryz.underlying142 rfl rfl (by kernel_rfl) (i := ((Tryz.prog.info? 139).getD default)) (by kernel_rfl) Tryz.underlying139 rfl
instance : Fld Tryz.prog 142 10 10 1 false := fldok Tryz.underlying142 rfl rfl (by kernel_rfl) (i := ((Tryz.prog.info? 140).getD default)) (by kernel_rfl) Tryz.underlying140 rfl
instance : FnOk Tryz.prog 3 := fnok (by kernel_rfl)
instance : FnOk Tryz.prog 4 := fnok (by kernel_rfl)
instance : FnOk Tryz.prog 5 := fnok (by kernel_rfl)
instance : FnOk Tryz.prog 6 := fnok (by kernel_rfl)
instance : FnOk Tryz.prog 7 := fnok (by kernel_rfl)
instance : FnOk Tryz.prog 8 := fnok (by kernel_rfl)
instance : FnOk Tryz.prog 9 := fnok (by kernel_rfl)
instance : FnOk Tryz.prog 10 := fnok (by kernel_rfl)
instance : FnOk Tryz.prog 11 := fnok (by kernel_rfl)
instance : FnOk Tryz.prog 12 := fnok (by kernel_rfl)
instance : FnOk Tryz.prog 13 := fnok (by kernel_rfl)
instance : FnOk Tryz.prog 14 := fnok (by kernel_rfl)
instance : FnOk Tryz.prog 15 := fnok (by kernel_rfl)
instance : FnOk Tryz.prog 16 := fnok (by kernel_rfl)
instance : FnOk Tryz.prog 17 := fnok (by kernel_rfl)
instance : FnOk Tryz.prog 18 := fnok (by kernel_rfl)
instance : FnOk Tryz.prog 19 := fnok (by kernel_rfl)
instance : FnOk Tryz.prog 20 := fnok (by kernel_rfl)
instance : FnOk Tryz.prog 21 := fnok (by kernel_rfl)
instance : FnOk Tryz.prog 22 := fnok (by kernel_rfl)
instance : FnOk Tryz.prog 23 := fnok (by kernel_rfl)
instance : FnOk Tryz.prog 24 := fnok (by kernel_rfl)
instance : FnOk Tryz.prog 25 := fnok (by kernel_rfl)
instance : FnOk Tryz.prog 26 := fnok (by kernel_rfl)
instance : FnOk Tryz.prog 27 := fnok (by kernel_rfl)
instance : FnOk Tryz.prog 28 := fnok (by kernel_rfl)
instance : FnOk Tryz.prog 29 := fnok (by kernel_rfl)
instance : FnOk Tryz.prog 30 := fnok (by kernel_rfl)
instance : FnOk Tryz.prog 31 := fnok (by kernel_rfl)
instance : FnOk Tryz.prog 32 := fnok (by kernel_rfl)
instance : FnOk Tryz.prog 33 := fnok (by kernel_rfl)
instance : FnOk Tryz.prog 34 := fnok (by kernel_rfl)
instance : FnOk Tryz.prog 35 := fnok (by kernel_rfl)
instance : FnOk Tryz.prog 36 := fnok (by kernel_rfl)
instance : FnOk Tryz.prog 37 := fnok (by kernel_rfl)
instance : FnOk Tryz.prog 38 := fnok (by kernel_rfl)
instance : FnOk Tryz.prog 39 := fnok (by kernel_rfl)
instance : FnOk Tryz.prog 40 := fnok (by kernel_rfl)
instance : FnOk Tryz.prog 41 := fnok (by kernel_rfl)
instance : FnOk Tryz.prog 42 := fnok (by kernel_rfl)
instance : FnOk Tryz.prog 43 := fnok (by kernel_rfl)
instance : FnOk Tryz.prog 44 := fnok (by kernel_rfl)
instance : FnOk Tryz.prog 45 := fnok (by kernel_rfl)
instance : FnOk Tryz.prog 46 := fnok (by kernel_rfl)
instance : FnOk Tryz.prog 47 := fnok (by kernel_rfl)
instance : FnOk Tryz.prog 48 := fnok (by kernel_rfl)
instance : FnOk Tryz.prog 49 := fnok (by kernel_rfl)
instance : FnOk Tryz.prog 50 := fnok (by kernel_rfl)
instance : FnOk Tryz.prog 51 := fnok (by kernel_rfl)
instance : FnOk Tryz.prog 52 := fnok (by kernel_rfl)
instance : FnOk Tryz.prog 53 := fnok (by kernel_rfl)
instance : FnOk Tryz.prog 54 := fnok (by kernel_rfl)
instance : FnOk Tryz.prog 55 := fnok (by kernel_rfl)
instance : FnOk Tryz.prog 56 := fnok (by kernel_rfl)
instance : FnOk Tryz.prog 57 := fnok (by kernel_rfl)
instance : FnOk Tryz.prog 58 := fnok (by kernel_rfl)
instance : FnOk Tryz.prog 59 := fnok (by kernel_rfl)
instance : FnOk Tryz.prog 60 := fnok (by kernel_rfl)
instance : FnOk Tryz.prog 61 := fnok (by kernel_rfl)
instance : FnOk Tryz.prog 62 := fnok (by kernel_rfl)
instance : FnOk Tryz.prog 63 := fnok (by kernel_rfl)
instance : FnOk Tryz.prog 64 := fnok (by kernel_rfl)
instance : FnOk Tryz.prog 65 := fnok (by kernel_rfl)
instance : FnOk Tryz.prog 66 := fnok (by kernel_rfl)
instance : FnOk Tryz.prog 67 := fnok (by kernel_rfl)
instance : FnOk Tryz.prog 68 := fnok (by kernel_rfl)
instance : FnOk Tryz.prog 69 := fnok (by kernel_rfl)
instance : FnOk Tryz.prog 70 := fnok (by kernel_rfl)
instance : FnOk Tryz.prog 71 := fnok (by kernel_rfl)
instance : FnOk Tryz.prog 72 := fnok (by kernel_rfl)
instance : FnOk Tryz.prog 73 := fnok (by kernel_rfl)
instance : FnOk Tryz.prog 74 := fnok (by kernel_rfl)
instance : FnOk Tryz.prog 75 := fnok (by kernel_rfl)
instance : FnOk Tryz.prog 76 := fnok (by kernel_rfl)
instance : FnOk Tryz.prog 77 := fnok (by kernel_rfl)
instance : FnOk Tryz.prog 78 := fnok (by kernel_rfl)
instance : FnOk Tryz.prog 79 := fnok (by kernel_rfl)
instance : FnOk Tryz.prog 80 := fnok (by kernel_rfl)
instance : FnOk Tryz.prog 81 := fnok (by kernel_rfl)
instance : FnOk Tryz.prog 82 := fnok (by kernel_rfl)
instance : FnOk Tryz.prog 83 := fnok (by kernel_rfl)
instance : FnOk Tryz.prog 84 := fnok (by kernel_rfl)
instance : FnOk Tryz.prog 85 := fnok (by kernel_rfl)
instance : FnOk Tryz.prog 86 := fnok (by kernel_rfl)
instance : FnOk Tryz.prog 87 := fnok (by kernel_rfl)
instance : FnOk Tryz.prog 88 := fnok (by kernel_rfl)
instance : FnOk Tryz.prog 89 := fnok (by kernel_rfl)
instance : FnOk Tryz.prog 90 := fnok (by kernel_rfl)
instance : FnOk Tryz.prog 91 := fnok (by kernel_rfl)
instance : FnOk Tryz.prog 92 := fnok (by kernel_rfl)
instance : FnOk Tryz.prog 93 := fnok (by kernel_rfl)
instance : FnOk Tryz.prog 94 := fnok (by kernel_rfl)
instance : FnOk Tryz.prog 95 := fnok (by kernel_rfl)
instance : FnOk Tryz.prog 96 := fnok (by kernel_rfl)
instance : FnOk Tryz.prog 97 := fnok (by kernel_rfl)
instance : FnOk Tryz.prog 99 := fnok (by kernel_rfl)
instance : FnOk Tryz.prog 100 := fnok (by kernel_rfl)
instance : FnOk Tryz.prog 101 := fnok (by kernel_rfl)
instance : FnOk Tryz.prog 102 := fnok (by kernel_rfl)
instance : FnOk Tryz.prog 103 := fnok (by kernel_rfl)
instance : FnOk Tryz.prog 104 := fnok (by kernel_rfl)
instance : FnOk Tryz.prog 105 := fnok (by kernel_rfl)
instance : FnOk Tryz.prog 106 := fnok (by kernel_rfl)
instance : FnOk Tryz.prog 107 := fnok (by kernel_rfl)
instance : FnOk Tryz.prog 108 := fnok (by kernel_rfl)
instance : FnOk Tryz.prog 109 := fnok (by kernel_rfl)
instance : FnOk Tryz.prog 110 := fnok (by kernel_rfl)
instance : FnOk Tryz.prog 111 := fnok (by kernel_rfl)
instance : FnOk Tryz.prog 112 := fnok (by kernel_rfl)
instance : FnOk Tryz.prog 113 := fnok (by kernel_rfl)
instance : FnOk Tryz.prog 115 := fnok (by kernel_rfl)
instance : FnOk Tryz.prog 116 := fnok (by kernel_rfl)
instance : FnOk Tryz.prog 117 := fnok (by kernel_rfl)
instance : FnOk Tryz.prog 118 := fnok (by kernel_rfl)
end Go.Wm

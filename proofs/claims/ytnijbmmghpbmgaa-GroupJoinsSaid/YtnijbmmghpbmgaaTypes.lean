/-
  The facts on types and functions of this seat's program, written by a program of the prover's own out of the dump. Conditions: none.
-/
import Derived.Test.YtnijbmmghpbmgaaCoA
import Derived.Test.YtnijbmmghpbmgaaProg
import Derived.KernelRfl
set_option linter.all false
namespace Go.Wm
open Go.Proofs
set_option maxRecDepth 100000
theorem tyi {P : Program} {t : TypeId} {sz bs : Nat} {z : Value} (h : (P.info? t).map (fun i => (i.size, i.bytes, i.zero)) = some (sz, bs, some z)) : TyI P t sz bs z := by
  cases e : P.info? t with
  | none => simp [e] at h
  | some i => simp only [e, Option.map_some, Option.some.injEq, Prod.mk.injEq] at h; exact ⟨i, e, h.1, h.2.1, h.2.2⟩
theorem fnok {P : Program} {f : FuncId} (h : (P.funcs[f]?).map (fun fn => (fn.name == "runtime.NumGoroutine", fn.body.isNone)) = some (false, false)) : FnOk P f := by
  cases e : P.funcs[f]? with
  | none => simp [e] at h
  | some i => simp only [e, Option.map_some, Option.some.injEq, Prod.mk.injEq] at h; exact ⟨i, e, h.1, h.2⟩
theorem fldok {P : Program} {t f off sz : Nat} {ag : Bool} {fs : Array Field} {fd : Field} {i : TypeInfo} {d : TypeDesc} (h1 : P.underlying t = some (.struct fs)) (h2 : fs[f]? = some fd) (h3 : fd.offset = off) (h4 : P.info? fd.type = some i) (h5 : i.size = sz) (h6 : P.underlying fd.type = some d) (h7 : aggD d = ag) : Fld P t f off sz ag := ⟨fs, fd, d, i, h1, h2, h3, h4, h5, h6, h7⟩
instance : Mixed Try.prog := ⟨by kernel_rfl⟩
instance : TyU Try.prog 2 (.int .i64) := ⟨Try.underlying2⟩
instance : TyI Try.prog 2 1 8 (.int .i64 (0)) := tyi (by kernel_rfl)
instance : TyU Try.prog 3 (.int .i64) := ⟨Try.underlying3⟩
instance : TyI Try.prog 3 1 8 (.int .i64 (0)) := tyi (by kernel_rfl)
instance : TyU Try.prog 4 .bool := ⟨Try.underlying4⟩
instance : TyI Try.prog 4 1 1 (.bool false) := tyi (by kernel_rfl)
instance : TyU Try.prog 5 (.int .u8) := ⟨Try.underlying5⟩
instance : TyI Try.prog 5 1 1 (.int .u8 (0)) := tyi (by kernel_rfl)
instance : TyU Try.prog 6 (.int .u8) := ⟨Try.underlying6⟩
instance : TyI Try.prog 6 1 1 (.int .u8 (0)) := tyi (by kernel_rfl)
instance : TyU Try.prog 9 .string := ⟨Try.underlying9⟩
instance : TyI Try.prog 9 1 16 (.string ByteArray.empty) := tyi (by kernel_rfl)
instance : TyU Try.prog 10 .string := ⟨Try.underlying10⟩
instance : TyI Try.prog 10 1 16 (.string ByteArray.empty) := tyi (by kernel_rfl)
instance : TyU Try.prog 11 .string := ⟨Try.underlying11⟩
instance : TyI Try.prog 11 1 16 (.string ByteArray.empty) := tyi (by kernel_rfl)
instance : TyU Try.prog 12 (.int .u64) := ⟨Try.underlying12⟩
instance : TyI Try.prog 12 1 8 (.int .u64 (0)) := tyi (by kernel_rfl)
instance : TyU Try.prog 15 (.pointer 140) := ⟨Try.underlying15⟩
instance : TyI Try.prog 15 1 8 (.pointer none) := tyi (by kernel_rfl)
instance : TyU Try.prog 16 (.pointer 143) := ⟨Try.underlying16⟩
instance : TyI Try.prog 16 1 8 (.pointer none) := tyi (by kernel_rfl)
instance : TyU Try.prog 17 (.pointer 153) := ⟨Try.underlying17⟩
instance : TyI Try.prog 17 1 8 (.pointer none) := tyi (by kernel_rfl)
instance : TyU Try.prog 21 (.int .i32) := ⟨Try.underlying21⟩
instance : TyI Try.prog 21 1 4 (.int .i32 (0)) := tyi (by kernel_rfl)
instance : TyU Try.prog 22 (.slice 28) := ⟨Try.underlying22⟩
instance : TyI Try.prog 22 1 24 (.slice none 0 0) := tyi (by kernel_rfl)
instance : TyU Try.prog 23 (.struct (Try.prog.fieldsOf 23)) := ⟨by kernel_rfl⟩
instance : TyI Try.prog 23 4 56 (.agg #[(.string ByteArray.empty), (.int .i64 (0)), (.int .i64 (0)), (.slice none 0 0)]) := tyi (by kernel_rfl)
instance : Fld Try.prog 23 0 0 1 false := fldok Try.underlying23 rfl rfl (by kernel_rfl) (i := ((Try.prog.info? 9).getD default)) (by kernel_rfl) Try.underlying9 rfl
instance : Fld Try.prog 23 1 1 1 false := fldok Try.underlying23 rfl rfl (by kernel_rfl) (i := ((Try.prog.info? 3).getD default)) (by kernel_rfl) Try.underlying3 rfl
instance : Fld Try.prog 23 2 2 1 false := fldok Try.underlying23 rfl rfl (by kernel_rfl) (i := ((Try.prog.info? 3).getD default)) (by kernel_rfl) Try.underlying3 rfl
instance : Fld Try.prog 23 3 3 1 false := fldok Try.underlying23 rfl rfl (by kernel_rfl) (i := ((Try.prog.info? 22).getD default)) (by kernel_rfl) Try.underlying22 rfl
instance : Bld Try.prog 23 [(0, 1), (1, 1), (2, 1), (3, 1)] [(.string ByteArray.empty), (.int .i64 (0)), (.int .i64 (0)), (.slice none 0 0)] := by
  refine ⟨_, ((Try.prog.info? 23).getD default), _, Try.underlying23, by kernel_rfl, (by kernel_rfl : _ = some (.agg #[(.string ByteArray.empty), (.int .i64 (0)), (.int .i64 (0)), (.slice none 0 0)])), rfl, fun w => by kernel_rfl⟩
instance : TyU Try.prog 24 (.struct (Try.prog.fieldsOf 24)) := ⟨by kernel_rfl⟩
instance : TyI Try.prog 24 4 56 (.agg #[(.string ByteArray.empty), (.int .i64 (0)), (.int .i64 (0)), (.slice none 0 0)]) := tyi (by kernel_rfl)
instance : Fld Try.prog 24 0 0 1 false := fldok Try.underlying24 rfl rfl (by kernel_rfl) (i := ((Try.prog.info? 9).getD default)) (by kernel_rfl) Try.underlying9 rfl
instance : Fld Try.prog 24 1 1 1 false := fldok Try.underlying24 rfl rfl (by kernel_rfl) (i := ((Try.prog.info? 3).getD default)) (by kernel_rfl) Try.underlying3 rfl
instance : Fld Try.prog 24 2 2 1 false := fldok Try.underlying24 rfl rfl (by kernel_rfl) (i := ((Try.prog.info? 3).getD default)) (by kernel_rfl) Try.underlying3 rfl
instance : Fld Try.prog 24 3 3 1 false := fldok Try.underlying24 rfl rfl (by kernel_rfl) (i := ((Try.prog.info? 22).getD default)) (by kernel_rfl) Try.underlying22 rfl
instance : Bld Try.prog 24 [(0, 1), (1, 1), (2, 1), (3, 1)] [(.string ByteArray.empty), (.int .i64 (0)), (.int .i64 (0)), (.slice none 0 0)] := by
  refine ⟨_, ((Try.prog.info? 24).getD default), _, Try.underlying24, by kernel_rfl, (by kernel_rfl : _ = some (.agg #[(.string ByteArray.empty), (.int .i64 (0)), (.int .i64 (0)), (.slice none 0 0)])), rfl, fun w => by kernel_rfl⟩
instance : TyU Try.prog 25 (.slice 9) := ⟨Try.underlying25⟩
instance : TyI Try.prog 25 1 24 (.slice none 0 0) := tyi (by kernel_rfl)
instance : TyU Try.prog 26 (.slice 63) := ⟨Try.underlying26⟩
instance : TyI Try.prog 26 1 24 (.slice none 0 0) := tyi (by kernel_rfl)
instance : TyU Try.prog 27 (.struct (Try.prog.fieldsOf 27)) := ⟨by kernel_rfl⟩
instance : TyI Try.prog 27 6 96 (.agg #[(.string ByteArray.empty), (.string ByteArray.empty), (.slice none 0 0), (.slice none 0 0), (.bool false), (.int .i64 (0))]) := tyi (by kernel_rfl)
instance : Fld Try.prog 27 0 0 1 false := fldok Try.underlying27 rfl rfl (by kernel_rfl) (i := ((Try.prog.info? 9).getD default)) (by kernel_rfl) Try.underlying9 rfl
instance : Fld Try.prog 27 1 1 1 false := fldok Try.underlying27 rfl rfl (by kernel_rfl) (i := ((Try.prog.info? 9).getD default)) (by kernel_rfl) Try.underlying9 rfl
instance : Fld Try.prog 27 2 2 1 false := fldok Try.underlying27 rfl rfl (by kernel_rfl) (i := ((Try.prog.info? 25).getD default)) (by kernel_rfl) Try.underlying25 rfl
instance : Fld Try.prog 27 3 3 1 false := fldok Try.underlying27 rfl rfl (by kernel_rfl) (i := ((Try.prog.info? 26).getD default)) (by kernel_rfl) Try.underlying26 rfl
instance : Fld Try.prog 27 4 4 1 false := fldok Try.underlying27 rfl rfl (by kernel_rfl) (i := ((Try.prog.info? 4).getD default)) (by kernel_rfl) Try.underlying4 rfl
instance : Fld Try.prog 27 5 5 1 false := fldok Try.underlying27 rfl rfl (by kernel_rfl) (i := ((Try.prog.info? 3).getD default)) (by kernel_rfl) Try.underlying3 rfl
instance : Bld Try.prog 27 [(0, 1), (1, 1), (2, 1), (3, 1), (4, 1), (5, 1)] [(.string ByteArray.empty), (.string ByteArray.empty), (.slice none 0 0), (.slice none 0 0), (.bool false), (.int .i64 (0))] := by
  refine ⟨_, ((Try.prog.info? 27).getD default), _, Try.underlying27, by kernel_rfl, (by kernel_rfl : _ = some (.agg #[(.string ByteArray.empty), (.string ByteArray.empty), (.slice none 0 0), (.slice none 0 0), (.bool false), (.int .i64 (0))])), rfl, fun w => by kernel_rfl⟩
instance : TyU Try.prog 28 (.struct (Try.prog.fieldsOf 28)) := ⟨by kernel_rfl⟩
instance : TyI Try.prog 28 6 96 (.agg #[(.string ByteArray.empty), (.string ByteArray.empty), (.slice none 0 0), (.slice none 0 0), (.bool false), (.int .i64 (0))]) := tyi (by kernel_rfl)
instance : Fld Try.prog 28 0 0 1 false := fldok Try.underlying28 rfl rfl (by kernel_rfl) (i := ((Try.prog.info? 9).getD default)) (by kernel_rfl) Try.underlying9 rfl
instance : Fld Try.prog 28 1 1 1 false := fldok Try.underlying28 rfl rfl (by kernel_rfl) (i := ((Try.prog.info? 9).getD default)) (by kernel_rfl) Try.underlying9 rfl
instance : Fld Try.prog 28 2 2 1 false := fldok Try.underlying28 rfl rfl (by kernel_rfl) (i := ((Try.prog.info? 25).getD default)) (by kernel_rfl) Try.underlying25 rfl
instance : Fld Try.prog 28 3 3 1 false := fldok Try.underlying28 rfl rfl (by kernel_rfl) (i := ((Try.prog.info? 26).getD default)) (by kernel_rfl) Try.underlying26 rfl
instance : Fld Try.prog 28 4 4 1 false := fldok Try.underlying28 rfl rfl (by kernel_rfl) (i := ((Try.prog.info? 4).getD default)) (by kernel_rfl) Try.underlying4 rfl
instance : Fld Try.prog 28 5 5 1 false := fldok Try.underlying28 rfl rfl (by kernel_rfl) (i := ((Try.prog.info? 3).getD default)) (by kernel_rfl) Try.underlying3 rfl
instance : Bld Try.prog 28 [(0, 1), (1, 1), (2, 1), (3, 1), (4, 1), (5, 1)] [(.string ByteArray.empty), (.string ByteArray.empty), (.slice none 0 0), (.slice none 0 0), (.bool false), (.int .i64 (0))] := by
  refine ⟨_, ((Try.prog.info? 28).getD default), _, Try.underlying28, by kernel_rfl, (by kernel_rfl : _ = some (.agg #[(.string ByteArray.empty), (.string ByteArray.empty), (.slice none 0 0), (.slice none 0 0), (.bool false), (.int .i64 (0))])), rfl, fun w => by kernel_rfl⟩
instance : TyU Try.prog 32 (.int .i64) := ⟨Try.underlying32⟩
instance : TyI Try.prog 32 1 8 (.int .i64 (0)) := tyi (by kernel_rfl)
instance : TyU Try.prog 49 (.slice 53) := ⟨Try.underlying49⟩
instance : TyI Try.prog 49 1 24 (.slice none 0 0) := tyi (by kernel_rfl)
instance : TyU Try.prog 52 (.struct (Try.prog.fieldsOf 52)) := ⟨by kernel_rfl⟩
instance : TyI Try.prog 52 10 128 (.agg #[(.int .i64 (0)), (.string ByteArray.empty), (.string ByteArray.empty), (.slice none 0 0), (.slice none 0 0), (.bool false), (.int .i64 (0)), (.int .i64 (0)), (.int .i64 (0)), (.int .i64 (0))]) := tyi (by kernel_rfl)
instance : Fld Try.prog 52 0 0 1 false := fldok Try.underlying52 rfl rfl (by kernel_rfl) (i := ((Try.prog.info? 3).getD default)) (by kernel_rfl) Try.underlying3 rfl
instance : Fld Try.prog 52 1 1 6 true := fldok Try.underlying52 rfl rfl (by kernel_rfl) (i := ((Try.prog.info? 28).getD default)) (by kernel_rfl) Try.underlying28 rfl
instance : Fld Try.prog 52 2 7 1 false := fldok Try.underlying52 rfl rfl (by kernel_rfl) (i := ((Try.prog.info? 3).getD default)) (by kernel_rfl) Try.underlying3 rfl
instance : Fld Try.prog 52 3 8 1 false := fldok Try.underlying52 rfl rfl (by kernel_rfl) (i := ((Try.prog.info? 3).getD default)) (by kernel_rfl) Try.underlying3 rfl
instance : Fld Try.prog 52 4 9 1 false := fldok Try.underlying52 rfl rfl (by kernel_rfl) (i := ((Try.prog.info? 3).getD default)) (by kernel_rfl) Try.underlying3 rfl
instance : Bld Try.prog 52 [(0, 1), (1, 6), (7, 1), (8, 1), (9, 1)] [(.int .i64 (0)), (.string ByteArray.empty), (.string ByteArray.empty), (.slice none 0 0), (.slice none 0 0), (.bool false), (.int .i64 (0)), (.int .i64 (0)), (.int .i64 (0)), (.int .i64 (0))] := by
  refine ⟨_, ((Try.prog.info? 52).getD default), _, Try.underlying52, by kernel_rfl, (by kernel_rfl : _ = some (.agg #[(.int .i64 (0)), (.string ByteArray.empty), (.string ByteArray.empty), (.slice none 0 0), (.slice none 0 0), (.bool false), (.int .i64 (0)), (.int .i64 (0)), (.int .i64 (0)), (.int .i64 (0))])), rfl, fun w => by kernel_rfl⟩
instance : TyU Try.prog 53 (.struct (Try.prog.fieldsOf 53)) := ⟨by kernel_rfl⟩
instance : TyI Try.prog 53 10 128 (.agg #[(.int .i64 (0)), (.string ByteArray.empty), (.string ByteArray.empty), (.slice none 0 0), (.slice none 0 0), (.bool false), (.int .i64 (0)), (.int .i64 (0)), (.int .i64 (0)), (.int .i64 (0))]) := tyi (by kernel_rfl)
instance : Fld Try.prog 53 0 0 1 false := fldok Try.underlying53 rfl rfl (by kernel_rfl) (i := ((Try.prog.info? 3).getD default)) (by kernel_rfl) Try.underlying3 rfl
instance : Fld Try.prog 53 1 1 6 true := fldok Try.underlying53 rfl rfl (by kernel_rfl) (i := ((Try.prog.info? 28).getD default)) (by kernel_rfl) Try.underlying28 rfl
instance : Fld Try.prog 53 2 7 1 false := fldok Try.underlying53 rfl rfl (by kernel_rfl) (i := ((Try.prog.info? 3).getD default)) (by kernel_rfl) Try.underlying3 rfl
instance : Fld Try.prog 53 3 8 1 false := fldok Try.underlying53 rfl rfl (by kernel_rfl) (i := ((Try.prog.info? 3).getD default)) (by kernel_rfl) Try.underlying3 rfl
instance : Fld Try.prog 53 4 9 1 false := fldok Try.underlying53 rfl rfl (by kernel_rfl) (i := ((Try.prog.info? 3).getD default)) (by kernel_rfl) Try.underlying3 rfl
instance : Bld Try.prog 53 [(0, 1), (1, 6), (7, 1), (8, 1), (9, 1)] [(.int .i64 (0)), (.string ByteArray.empty), (.string ByteArray.empty), (.slice none 0 0), (.slice none 0 0), (.bool false), (.int .i64 (0)), (.int .i64 (0)), (.int .i64 (0)), (.int .i64 (0))] := by
  refine ⟨_, ((Try.prog.info? 53).getD default), _, Try.underlying53, by kernel_rfl, (by kernel_rfl : _ = some (.agg #[(.int .i64 (0)), (.string ByteArray.empty), (.string ByteArray.empty), (.slice none 0 0), (.slice none 0 0), (.bool false), (.int .i64 (0)), (.int .i64 (0)), (.int .i64 (0)), (.int .i64 (0))])), rfl, fun w => by kernel_rfl⟩
instance : TyU Try.prog 55 (.slice 26) := ⟨Try.underlying55⟩
instance : TyI Try.prog 55 1 24 (.slice none 0 0) := tyi (by kernel_rfl)
instance : TyU Try.prog 62 (.struct (Try.prog.fieldsOf 62)) := ⟨by kernel_rfl⟩
instance : TyI Try.prog 62 3 32 (.agg #[(.string ByteArray.empty), (.int .i64 (0)), (.int .i64 (0))]) := tyi (by kernel_rfl)
instance : Fld Try.prog 62 0 0 1 false := fldok Try.underlying62 rfl rfl (by kernel_rfl) (i := ((Try.prog.info? 9).getD default)) (by kernel_rfl) Try.underlying9 rfl
instance : Fld Try.prog 62 1 1 1 false := fldok Try.underlying62 rfl rfl (by kernel_rfl) (i := ((Try.prog.info? 3).getD default)) (by kernel_rfl) Try.underlying3 rfl
instance : Fld Try.prog 62 2 2 1 false := fldok Try.underlying62 rfl rfl (by kernel_rfl) (i := ((Try.prog.info? 3).getD default)) (by kernel_rfl) Try.underlying3 rfl
instance : Bld Try.prog 62 [(0, 1), (1, 1), (2, 1)] [(.string ByteArray.empty), (.int .i64 (0)), (.int .i64 (0))] := by
  refine ⟨_, ((Try.prog.info? 62).getD default), _, Try.underlying62, by kernel_rfl, (by kernel_rfl : _ = some (.agg #[(.string ByteArray.empty), (.int .i64 (0)), (.int .i64 (0))])), rfl, fun w => by kernel_rfl⟩
instance : Flat Try.prog 62 [(9, .string), (3, (.int .i64)), (3, (.int .i64))] := by
  refine ⟨by kernel_rfl, by kernel_rfl, by kernel_rfl, by kernel_rfl, ?_⟩
  simp only [List.forall_mem_cons]
  exact ⟨⟨Try.underlying9, rfl⟩, ⟨Try.underlying3, rfl⟩, ⟨Try.underlying3, rfl⟩, fun x hx => by cases hx⟩
instance : TyU Try.prog 63 (.struct (Try.prog.fieldsOf 63)) := ⟨by kernel_rfl⟩
instance : TyI Try.prog 63 3 32 (.agg #[(.string ByteArray.empty), (.int .i64 (0)), (.int .i64 (0))]) := tyi (by kernel_rfl)
instance : Fld Try.prog 63 0 0 1 false := fldok Try.underlying63 rfl rfl (by kernel_rfl) (i := ((Try.prog.info? 9).getD default)) (by kernel_rfl) Try.underlying9 rfl
instance : Fld Try.prog 63 1 1 1 false := fldok Try.underlying63 rfl rfl (by kernel_rfl) (i := ((Try.prog.info? 3).getD default)) (by kernel_rfl) Try.underlying3 rfl
instance : Fld Try.prog 63 2 2 1 false := fldok Try.underlying63 rfl rfl (by kernel_rfl) (i := ((Try.prog.info? 3).getD default)) (by kernel_rfl) Try.underlying3 rfl
instance : Bld Try.prog 63 [(0, 1), (1, 1), (2, 1)] [(.string ByteArray.empty), (.int .i64 (0)), (.int .i64 (0))] := by
  refine ⟨_, ((Try.prog.info? 63).getD default), _, Try.underlying63, by kernel_rfl, (by kernel_rfl : _ = some (.agg #[(.string ByteArray.empty), (.int .i64 (0)), (.int .i64 (0))])), rfl, fun w => by kernel_rfl⟩
instance : Flat Try.prog 63 [(9, .string), (3, (.int .i64)), (3, (.int .i64))] := by
  refine ⟨by kernel_rfl, by kernel_rfl, by kernel_rfl, by kernel_rfl, ?_⟩
  simp only [List.forall_mem_cons]
  exact ⟨⟨Try.underlying9, rfl⟩, ⟨Try.underlying3, rfl⟩, ⟨Try.underlying3, rfl⟩, fun x hx => by cases hx⟩
instance : TyU Try.prog 68 (.pointer 72) := ⟨Try.underlying68⟩
instance : TyI Try.prog 68 1 8 (.pointer none) := tyi (by kernel_rfl)
instance : TyU Try.prog 71 (.struct (Try.prog.fieldsOf 71)) := ⟨by kernel_rfl⟩
instance : TyI Try.prog 71 5 64 (.agg #[(.string ByteArray.empty), (.int .i64 (0)), (.int .i64 (0)), (.slice none 0 0), (.int .i64 (0))]) := tyi (by kernel_rfl)
instance : Fld Try.prog 71 0 0 4 true := fldok Try.underlying71 rfl rfl (by kernel_rfl) (i := ((Try.prog.info? 24).getD default)) (by kernel_rfl) Try.underlying24 rfl
instance : Fld Try.prog 71 1 4 1 false := fldok Try.underlying71 rfl rfl (by kernel_rfl) (i := ((Try.prog.info? 32).getD default)) (by kernel_rfl) Try.underlying32 rfl
instance : Bld Try.prog 71 [(0, 4), (4, 1)] [(.string ByteArray.empty), (.int .i64 (0)), (.int .i64 (0)), (.slice none 0 0), (.int .i64 (0))] := by
  refine ⟨_, ((Try.prog.info? 71).getD default), _, Try.underlying71, by kernel_rfl, (by kernel_rfl : _ = some (.agg #[(.string ByteArray.empty), (.int .i64 (0)), (.int .i64 (0)), (.slice none 0 0), (.int .i64 (0))])), rfl, fun w => by kernel_rfl⟩
instance : TyU Try.prog 72 (.struct (Try.prog.fieldsOf 72)) := ⟨by kernel_rfl⟩
instance : TyI Try.prog 72 5 64 (.agg #[(.string ByteArray.empty), (.int .i64 (0)), (.int .i64 (0)), (.slice none 0 0), (.int .i64 (0))]) := tyi (by kernel_rfl)
instance : Fld Try.prog 72 0 0 4 true := fldok Try.underlying72 rfl rfl (by kernel_rfl) (i := ((Try.prog.info? 24).getD default)) (by kernel_rfl) Try.underlying24 rfl
instance : Fld Try.prog 72 1 4 1 false := fldok Try.underlying72 rfl rfl (by kernel_rfl) (i := ((Try.prog.info? 32).getD default)) (by kernel_rfl) Try.underlying32 rfl
instance : Bld Try.prog 72 [(0, 4), (4, 1)] [(.string ByteArray.empty), (.int .i64 (0)), (.int .i64 (0)), (.slice none 0 0), (.int .i64 (0))] := by
  refine ⟨_, ((Try.prog.info? 72).getD default), _, Try.underlying72, by kernel_rfl, (by kernel_rfl : _ = some (.agg #[(.string ByteArray.empty), (.int .i64 (0)), (.int .i64 (0)), (.slice none 0 0), (.int .i64 (0))])), rfl, fun w => by kernel_rfl⟩
instance : TyU Try.prog 95 (.map 9 3) := ⟨Try.underlying95⟩
instance : TyI Try.prog 95 1 8 (.map none) := tyi (by kernel_rfl)
instance : TyU Try.prog 96 (.map 63 3) := ⟨Try.underlying96⟩
instance : TyI Try.prog 96 1 8 (.map none) := tyi (by kernel_rfl)
instance : TyU Try.prog 103 (.pointer 106) := ⟨Try.underlying103⟩
instance : TyI Try.prog 103 1 8 (.pointer none) := tyi (by kernel_rfl)
instance : TyU Try.prog 104 (.slice 3) := ⟨Try.underlying104⟩
instance : TyI Try.prog 104 1 24 (.slice none 0 0) := tyi (by kernel_rfl)
instance : TyU Try.prog 105 (.struct (Try.prog.fieldsOf 105)) := ⟨by kernel_rfl⟩
instance : TyI Try.prog 105 4 96 (.agg #[(.slice none 0 0), (.slice none 0 0), (.slice none 0 0), (.slice none 0 0)]) := tyi (by kernel_rfl)
instance : Fld Try.prog 105 0 0 1 false := fldok Try.underlying105 rfl rfl (by kernel_rfl) (i := ((Try.prog.info? 22).getD default)) (by kernel_rfl) Try.underlying22 rfl
instance : Fld Try.prog 105 1 1 1 false := fldok Try.underlying105 rfl rfl (by kernel_rfl) (i := ((Try.prog.info? 26).getD default)) (by kernel_rfl) Try.underlying26 rfl
instance : Fld Try.prog 105 2 2 1 false := fldok Try.underlying105 rfl rfl (by kernel_rfl) (i := ((Try.prog.info? 104).getD default)) (by kernel_rfl) Try.underlying104 rfl
instance : Fld Try.prog 105 3 3 1 false := fldok Try.underlying105 rfl rfl (by kernel_rfl) (i := ((Try.prog.info? 104).getD default)) (by kernel_rfl) Try.underlying104 rfl
instance : Bld Try.prog 105 [(0, 1), (1, 1), (2, 1), (3, 1)] [(.slice none 0 0), (.slice none 0 0), (.slice none 0 0), (.slice none 0 0)] := by
  refine ⟨_, ((Try.prog.info? 105).getD default), _, Try.underlying105, by kernel_rfl, (by kernel_rfl : _ = some (.agg #[(.slice none 0 0), (.slice none 0 0), (.slice none 0 0), (.slice none 0 0)])), rfl, fun w => by kernel_rfl⟩
instance : TyU Try.prog 106 (.struct (Try.prog.fieldsOf 106)) := ⟨by kernel_rfl⟩
instance : TyI Try.prog 106 4 96 (.agg #[(.slice none 0 0), (.slice none 0 0), (.slice none 0 0), (.slice none 0 0)]) := tyi (by kernel_rfl)
instance : Fld Try.prog 106 0 0 1 false := fldok Try.underlying106 rfl rfl (by kernel_rfl) (i := ((Try.prog.info? 22).getD default)) (by kernel_rfl) Try.underlying22 rfl
instance : Fld Try.prog 106 1 1 1 false := fldok Try.underlying106 rfl rfl (by kernel_rfl) (i := ((Try.prog.info? 26).getD default)) (by kernel_rfl) Try.underlying26 rfl
instance : Fld Try.prog 106 2 2 1 false := fldok Try.underlying106 rfl rfl (by kernel_rfl) (i := ((Try.prog.info? 104).getD default)) (by kernel_rfl) Try.underlying104 rfl
instance : Fld Try.prog 106 3 3 1 false := fldok Try.underlying106 rfl rfl (by kernel_rfl) (i := ((Try.prog.info? 104).getD default)) (by kernel_rfl) Try.underlying104 rfl
instance : Bld Try.prog 106 [(0, 1), (1, 1), (2, 1), (3, 1)] [(.slice none 0 0), (.slice none 0 0), (.slice none 0 0), (.slice none 0 0)] := by
  refine ⟨_, ((Try.prog.info? 106).getD default), _, Try.underlying106, by kernel_rfl, (by kernel_rfl : _ = some (.agg #[(.slice none 0 0), (.slice none 0 0), (.slice none 0 0), (.slice none 0 0)])), rfl, fun w => by kernel_rfl⟩
instance : TyU Try.prog 126 (.map 63 128) := ⟨Try.underlying126⟩
instance : TyI Try.prog 126 1 8 (.map none) := tyi (by kernel_rfl)
instance : TyU Try.prog 128 (.map 3 4) := ⟨Try.underlying128⟩
instance : TyI Try.prog 128 1 8 (.map none) := tyi (by kernel_rfl)
instance : TyU Try.prog 133 (.int .u64) := ⟨Try.underlying133⟩
instance : TyI Try.prog 133 1 8 (.int .u64 (0)) := tyi (by kernel_rfl)
instance : TyU Try.prog 141 (.array 0 16) := ⟨Try.underlying141⟩
instance : TyI Try.prog 141 0 0 (.agg #[]) := tyi (by kernel_rfl)
instance : TyU Try.prog 145 (.int .u32) := ⟨Try.underlying145⟩
instance : TyI Try.prog 145 1 4 (.int .u32 (0)) := tyi (by kernel_rfl)
instance : TyU Try.prog 146 (.int .u8) := ⟨Try.underlying146⟩
instance : TyI Try.prog 146 1 1 (.int .u8 (0)) := tyi (by kernel_rfl)
instance : TyU Try.prog 147 (.int .u8) := ⟨Try.underlying147⟩
instance : TyI Try.prog 147 1 1 (.int .u8 (0)) := tyi (by kernel_rfl)
instance : TyU Try.prog 149 (.pointer 5) := ⟨Try.underlying149⟩
instance : TyI Try.prog 149 1 8 (.pointer none) := tyi (by kernel_rfl)
instance : TyU Try.prog 150 (.int .i32) := ⟨Try.underlying150⟩
instance : TyI Try.prog 150 1 4 (.int .i32 (0)) := tyi (by kernel_rfl)
instance : TyU Try.prog 151 (.int .i32) := ⟨Try.underlying151⟩
instance : TyI Try.prog 151 1 4 (.int .i32 (0)) := tyi (by kernel_rfl)
instance : TyU Try.prog 152 (.struct (Try.prog.fieldsOf 152)) := ⟨by kernel_rfl⟩
instance : TyI Try.prog 152 11 48 (.agg #[(.int .u64 (0)), (.int .u64 (0)), (.int .u32 (0)), (.int .u8 (0)), (.int .u8 (0)), (.int .u8 (0)), (.int .u8 (0)), .nilFunc, (.pointer none), (.int .i32 (0)), (.int .i32 (0))]) := tyi (by kernel_rfl)
instance : Fld Try.prog 152 0 0 1 false := fldok Try.underlying152 rfl rfl (by kernel_rfl) (i := ((Try.prog.info? 12).getD default)) (by kernel_rfl) Try.underlying12 rfl
instance : Fld Try.prog 152 1 1 1 false := fldok Try.underlying152 rfl rfl (by kernel_rfl) (i := ((Try.prog.info? 12).getD default)) (by kernel_rfl) Try.underlying12 rfl
instance : Fld Try.prog 152 2 2 1 false := fldok Try.underlying152 rfl rfl (by kernel_rfl) (i := ((Try.prog.info? 145).getD default)) (by kernel_rfl) Try.underlying145 rfl
instance : Fld Try.prog 152 3 3 1 false := fldok Try.underlying152 rfl rfl (by kernel_rfl) (i := ((Try.prog.info? 146).getD default)) (by kernel_rfl) Try.underlying146 rfl
instance : Fld Try.prog 152 4 4 1 false := fldok Try.underlying152 rfl rfl (by kernel_rfl) (i := ((Try.prog.info? 5).getD default)) (by kernel_rfl) Try.underlying5 rfl
instance : Fld Try.prog 152 5 5 1 false := fldok Try.underlying152 rfl rfl (by kernel_rfl) (i := ((Try.prog.info? 5).getD default)) (by kernel_rfl) Try.underlying5 rfl
instance : Fld Try.prog 152 6 6 1 false := fldok Try.underlying152 rfl rfl (by kernel_rfl) (i := ((Try.prog.info? 147).getD default)) (by kernel_rfl) Try.underlying147 rfl
instance : Fld Try.prog 152 8 8 1 false := fldok Try.underlying152 rfl rfl (by kernel_rfl) (i := ((Try.prog.info? 149).getD default)) (by kernel_rfl) Try.underlying149 rfl
instance : Fld Try.prog 152 9 9 1 false := fldok Try.underlying152 rfl rfl (by kernel_rfl) (i := ((Try.prog.info? 150).getD default)) (by kernel_rfl) Try.underlying150 rfl
instance : Fld Try.prog 152 10 10 1 false := fldok Try.underlying152 rfl rfl (by kernel_rfl) (i := ((Try.prog.info? 151).getD default)) (by kernel_rfl) Try.underlying151 rfl
instance : TyU Try.prog 153 (.struct (Try.prog.fieldsOf 153)) := ⟨by kernel_rfl⟩
instance : TyI Try.prog 153 11 48 (.agg #[(.int .u64 (0)), (.int .u64 (0)), (.int .u32 (0)), (.int .u8 (0)), (.int .u8 (0)), (.int .u8 (0)), (.int .u8 (0)), .nilFunc, (.pointer none), (.int .i32 (0)), (.int .i32 (0))]) := tyi (by kernel_rfl)
instance : Fld Try.prog 153 0 0 1 false := fldok Try.underlying153 rfl rfl (by kernel_rfl) (i := ((Try.prog.info? 12).getD default)) (by kernel_rfl) Try.underlying12 rfl
instance : Fld Try.prog 153 1 1 1 false := fldok Try.underlying153 rfl rfl (by kernel_rfl) (i := ((Try.prog.info? 12).getD default)) (by kernel_rfl) Try.underlying12 rfl
instance : Fld Try.prog 153 2 2 1 false := fldok Try.underlying153 rfl rfl (by kernel_rfl) (i := ((Try.prog.info? 145).getD default)) (by kernel_rfl) Try.underlying145 rfl
instance : Fld Try.prog 153 3 3 1 false := fldok Try.underlying153 rfl rfl (by kernel_rfl) (i := ((Try.prog.info? 146).getD default)) (by kernel_rfl) Try.underlying146 rfl
instance : Fld Try.prog 153 4 4 1 false := fldok Try.underlying153 rfl rfl (by kernel_rfl) (i := ((Try.prog.info? 5).getD default)) (by kernel_rfl) Try.underlying5 rfl
instance : Fld Try.prog 153 5 5 1 false := fldok Try.underlying153 rfl rfl (by kernel_rfl) (i := ((Try.prog.info? 5).getD default)) (by kernel_rfl) Try.underlying5 rfl
instance : Fld Try.prog 153 6 6 1 false := fldok Try.underlying153 rfl rfl (by kernel_rfl) (i := ((Try.prog.info? 147).getD default)) (by kernel_rfl) Try.underlying147 rfl
instance : Fld Try.prog 153 8 8 1 false := fldok Try.underlying153 rfl rfl (by kernel_rfl) (i := ((Try.prog.info? 149).getD default)) (by kernel_rfl) Try.underlying149 rfl
instance : Fld Try.prog 153 9 9 1 false := fldok Try.underlying153 rfl rfl (by kernel_rfl) (i := ((Try.prog.info? 150).getD default)) (by kernel_rfl) Try.underlying150 rfl
instance : Fld Try.prog 153 10 10 1 false := fldok Try.underlying153 rfl rfl (by kernel_rfl) (i := ((Try.prog.info? 151).getD default)) (by kernel_rfl) Try.underlying151 rfl
instance : FnOk Try.prog 3 := fnok (by kernel_rfl)
instance : FnOk Try.prog 4 := fnok (by kernel_rfl)
instance : FnOk Try.prog 5 := fnok (by kernel_rfl)
instance : FnOk Try.prog 6 := fnok (by kernel_rfl)
instance : FnOk Try.prog 7 := fnok (by kernel_rfl)
instance : FnOk Try.prog 8 := fnok (by kernel_rfl)
instance : FnOk Try.prog 9 := fnok (by kernel_rfl)
instance : FnOk Try.prog 10 := fnok (by kernel_rfl)
instance : FnOk Try.prog 11 := fnok (by kernel_rfl)
instance : FnOk Try.prog 12 := fnok (by kernel_rfl)
instance : FnOk Try.prog 13 := fnok (by kernel_rfl)
instance : FnOk Try.prog 14 := fnok (by kernel_rfl)
instance : FnOk Try.prog 15 := fnok (by kernel_rfl)
instance : FnOk Try.prog 16 := fnok (by kernel_rfl)
instance : FnOk Try.prog 17 := fnok (by kernel_rfl)
instance : FnOk Try.prog 18 := fnok (by kernel_rfl)
instance : FnOk Try.prog 19 := fnok (by kernel_rfl)
instance : FnOk Try.prog 20 := fnok (by kernel_rfl)
instance : FnOk Try.prog 21 := fnok (by kernel_rfl)
instance : FnOk Try.prog 22 := fnok (by kernel_rfl)
instance : FnOk Try.prog 23 := fnok (by kernel_rfl)
instance : FnOk Try.prog 24 := fnok (by kernel_rfl)
instance : FnOk Try.prog 25 := fnok (by kernel_rfl)
instance : FnOk Try.prog 26 := fnok (by kernel_rfl)
instance : FnOk Try.prog 27 := fnok (by kernel_rfl)
instance : FnOk Try.prog 28 := fnok (by kernel_rfl)
instance : FnOk Try.prog 29 := fnok (by kernel_rfl)
instance : FnOk Try.prog 30 := fnok (by kernel_rfl)
instance : FnOk Try.prog 31 := fnok (by kernel_rfl)
instance : FnOk Try.prog 32 := fnok (by kernel_rfl)
instance : FnOk Try.prog 33 := fnok (by kernel_rfl)
instance : FnOk Try.prog 34 := fnok (by kernel_rfl)
instance : FnOk Try.prog 35 := fnok (by kernel_rfl)
instance : FnOk Try.prog 36 := fnok (by kernel_rfl)
instance : FnOk Try.prog 37 := fnok (by kernel_rfl)
instance : FnOk Try.prog 38 := fnok (by kernel_rfl)
instance : FnOk Try.prog 39 := fnok (by kernel_rfl)
instance : FnOk Try.prog 40 := fnok (by kernel_rfl)
instance : FnOk Try.prog 41 := fnok (by kernel_rfl)
instance : FnOk Try.prog 42 := fnok (by kernel_rfl)
instance : FnOk Try.prog 43 := fnok (by kernel_rfl)
instance : FnOk Try.prog 44 := fnok (by kernel_rfl)
instance : FnOk Try.prog 45 := fnok (by kernel_rfl)
instance : FnOk Try.prog 46 := fnok (by kernel_rfl)
instance : FnOk Try.prog 47 := fnok (by kernel_rfl)
instance : FnOk Try.prog 48 := fnok (by kernel_rfl)
instance : FnOk Try.prog 49 := fnok (by kernel_rfl)
instance : FnOk Try.prog 50 := fnok (by kernel_rfl)
instance : FnOk Try.prog 51 := fnok (by kernel_rfl)
instance : FnOk Try.prog 52 := fnok (by kernel_rfl)
instance : FnOk Try.prog 53 := fnok (by kernel_rfl)
instance : FnOk Try.prog 54 := fnok (by kernel_rfl)
instance : FnOk Try.prog 55 := fnok (by kernel_rfl)
instance : FnOk Try.prog 56 := fnok (by kernel_rfl)
instance : FnOk Try.prog 57 := fnok (by kernel_rfl)
instance : FnOk Try.prog 58 := fnok (by kernel_rfl)
instance : FnOk Try.prog 59 := fnok (by kernel_rfl)
instance : FnOk Try.prog 60 := fnok (by kernel_rfl)
instance : FnOk Try.prog 61 := fnok (by kernel_rfl)
instance : FnOk Try.prog 62 := fnok (by kernel_rfl)
instance : FnOk Try.prog 63 := fnok (by kernel_rfl)
instance : FnOk Try.prog 64 := fnok (by kernel_rfl)
instance : FnOk Try.prog 65 := fnok (by kernel_rfl)
instance : FnOk Try.prog 66 := fnok (by kernel_rfl)
instance : FnOk Try.prog 67 := fnok (by kernel_rfl)
instance : FnOk Try.prog 68 := fnok (by kernel_rfl)
instance : FnOk Try.prog 69 := fnok (by kernel_rfl)
instance : FnOk Try.prog 70 := fnok (by kernel_rfl)
instance : FnOk Try.prog 71 := fnok (by kernel_rfl)
instance : FnOk Try.prog 72 := fnok (by kernel_rfl)
instance : FnOk Try.prog 73 := fnok (by kernel_rfl)
instance : FnOk Try.prog 74 := fnok (by kernel_rfl)
instance : FnOk Try.prog 75 := fnok (by kernel_rfl)
instance : FnOk Try.prog 76 := fnok (by kernel_rfl)
instance : FnOk Try.prog 77 := fnok (by kernel_rfl)
instance : FnOk Try.prog 78 := fnok (by kernel_rfl)
instance : FnOk Try.prog 79 := fnok (by kernel_rfl)
instance : FnOk Try.prog 80 := fnok (by kernel_rfl)
instance : FnOk Try.prog 81 := fnok (by kernel_rfl)
instance : FnOk Try.prog 82 := fnok (by kernel_rfl)
instance : FnOk Try.prog 83 := fnok (by kernel_rfl)
instance : FnOk Try.prog 84 := fnok (by kernel_rfl)
instance : FnOk Try.prog 85 := fnok (by kernel_rfl)
instance : FnOk Try.prog 86 := fnok (by kernel_rfl)
instance : FnOk Try.prog 87 := fnok (by kernel_rfl)
instance : FnOk Try.prog 88 := fnok (by kernel_rfl)
instance : FnOk Try.prog 89 := fnok (by kernel_rfl)
instance : FnOk Try.prog 90 := fnok (by kernel_rfl)
instance : FnOk Try.prog 91 := fnok (by kernel_rfl)
instance : FnOk Try.prog 92 := fnok (by kernel_rfl)
instance : FnOk Try.prog 93 := fnok (by kernel_rfl)
instance : FnOk Try.prog 95 := fnok (by kernel_rfl)
instance : FnOk Try.prog 96 := fnok (by kernel_rfl)
instance : FnOk Try.prog 97 := fnok (by kernel_rfl)
instance : FnOk Try.prog 98 := fnok (by kernel_rfl)
instance : FnOk Try.prog 99 := fnok (by kernel_rfl)
instance : FnOk Try.prog 100 := fnok (by kernel_rfl)
instance : FnOk Try.prog 101 := fnok (by kernel_rfl)
instance : FnOk Try.prog 102 := fnok (by kernel_rfl)
instance : FnOk Try.prog 103 := fnok (by kernel_rfl)
instance : FnOk Try.prog 104 := fnok (by kernel_rfl)
instance : FnOk Try.prog 105 := fnok (by kernel_rfl)
instance : FnOk Try.prog 106 := fnok (by kernel_rfl)
instance : FnOk Try.prog 107 := fnok (by kernel_rfl)
instance : FnOk Try.prog 108 := fnok (by kernel_rfl)
instance : FnOk Try.prog 109 := fnok (by kernel_rfl)
instance : FnOk Try.prog 110 := fnok (by kernel_rfl)
instance : FnOk Try.prog 111 := fnok (by kernel_rfl)
instance : FnOk Try.prog 112 := fnok (by kernel_rfl)
instance : FnOk Try.prog 113 := fnok (by kernel_rfl)
instance : FnOk Try.prog 114 := fnok (by kernel_rfl)
instance : FnOk Try.prog 115 := fnok (by kernel_rfl)
instance : FnOk Try.prog 116 := fnok (by kernel_rfl)
instance : FnOk Try.prog 118 := fnok (by kernel_rfl)
instance : FnOk Try.prog 119 := fnok (by kernel_rfl)
end Go.Wm

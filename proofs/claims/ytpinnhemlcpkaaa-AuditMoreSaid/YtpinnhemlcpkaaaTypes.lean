/-
  The facts on types and functions of this seat's program, written by a program of the prover's own out of the dump. Conditions: none.
-/
import Derived.Test.YtpinnhemlcpkaaaCoA
import Derived.Test.YtpinnhemlcpkaaaProg
import Derived.KernelRfl
namespace Go.Wm
open Go.Proofs
set_option linter.all false
set_option maxRecDepth 100000
theorem tyi {P : Program} {t : TypeId} {sz bs : Nat} {z : Value} (h : (P.info? t).map (fun i => (i.size, i.bytes, i.zero)) = some (sz, bs, some z)) : TyI P t sz bs z := by
  cases e : P.info? t with
  | none => simp [e] at h
  | some i => simp only [e, Option.map_some, Option.some.injEq, Prod.mk.injEq] at h; exact ⟨i, e, h.1, h.2.1, h.2.2⟩
theorem fnok {P : Program} {f : FuncId} (h : (P.funcs[f]?).map (fun fn => (fn.name == "runtime.NumGoroutine", fn.body.isNone)) = some (false, false)) : FnOk P f := by
  cases e : P.funcs[f]? with
  | none => simp [e] at h
  | some i => simp only [e, Option.map_some, Option.some.injEq, Prod.mk.injEq] at h; exact ⟨i, e, h.1, h.2⟩
theorem fldok {P : Program} {t f off sz : Nat} {ag : Bool} {fs : Array Field} {fd : Field} {i : TypeInfo} {d : TypeDesc} (h1 : P.underlying t = some (.struct fs)) (h2 : fs[f]? = some fd) (h3 : fd.offset = off) (h4 : P.info? fd.type = some i) (h5 : i.size = sz) (h6 : P.underlying fd.type = some d) (h7 : aggD d = ag) : Fld P t f off sz ag := ⟨fs, fd, d, i, h1, h2, h3, h4, h5, h6, h7⟩
instance : Mixed Try.prog := ⟨by kernel_rfl⟩
instance : TyU Try.prog 2 (.int .i64) := ⟨Try.underlying2⟩
instance : TyI Try.prog 2 1 8 (.int .i64 (0)) := tyi (by kernel_rfl)
instance : TyU Try.prog 3 (.int .i64) := ⟨Try.underlying3⟩
instance : TyI Try.prog 3 1 8 (.int .i64 (0)) := tyi (by kernel_rfl)
instance : TyU Try.prog 4 .bool := ⟨Try.underlying4⟩
instance : TyI Try.prog 4 1 1 (.bool false) := tyi (by kernel_rfl)
instance : TyU Try.prog 5 (.int .u8) := ⟨Try.underlying5⟩
instance : TyI Try.prog 5 1 1 (.int .u8 (0)) := tyi (by kernel_rfl)
instance : TyU Try.prog 6 (.int .u8) := ⟨Try.underlying6⟩
instance : TyI Try.prog 6 1 1 (.int .u8 (0)) := tyi (by kernel_rfl)
instance : TyU Try.prog 9 .string := ⟨Try.underlying9⟩
instance : TyI Try.prog 9 1 16 (.string ByteArray.empty) := tyi (by kernel_rfl)
instance : TyU Try.prog 10 .string := ⟨Try.underlying10⟩
instance : TyI Try.prog 10 1 16 (.string ByteArray.empty) := tyi (by kernel_rfl)
instance : TyU Try.prog 11 .string := ⟨Try.underlying11⟩
instance : TyI Try.prog 11 1 16 (.string ByteArray.empty) := tyi (by kernel_rfl)
instance : TyU Try.prog 12 (.int .u64) := ⟨Try.underlying12⟩
instance : TyI Try.prog 12 1 8 (.int .u64 (0)) := tyi (by kernel_rfl)
instance : TyU Try.prog 15 (.pointer 88) := ⟨Try.underlying15⟩
instance : TyI Try.prog 15 1 8 (.pointer none) := tyi (by kernel_rfl)
instance : TyU Try.prog 16 (.pointer 91) := ⟨Try.underlying16⟩
instance : TyI Try.prog 16 1 8 (.pointer none) := tyi (by kernel_rfl)
instance : TyU Try.prog 17 (.pointer 101) := ⟨Try.underlying17⟩
instance : TyI Try.prog 17 1 8 (.pointer none) := tyi (by kernel_rfl)
instance : TyU Try.prog 21 (.int .i32) := ⟨Try.underlying21⟩
instance : TyI Try.prog 21 1 4 (.int .i32 (0)) := tyi (by kernel_rfl)
instance : TyU Try.prog 22 (.slice 43) := ⟨Try.underlying22⟩
instance : TyI Try.prog 22 1 24 (.slice none 0 0) := tyi (by kernel_rfl)
instance : TyU Try.prog 23 (.slice 45) := ⟨Try.underlying23⟩
instance : TyI Try.prog 23 1 24 (.slice none 0 0) := tyi (by kernel_rfl)
instance : TyU Try.prog 24 (.struct (Try.prog.fieldsOf 24)) := ⟨by kernel_rfl⟩
instance : TyI Try.prog 24 3 32 (.agg #[(.string ByteArray.empty), (.int .i64 (0)), (.int .i64 (0))]) := tyi (by kernel_rfl)
instance : Fld Try.prog 24 0 0 1 false := fldok Try.underlying24 rfl rfl (by kernel_rfl) (i := ((Try.prog.info? 9).getD default)) (by kernel_rfl) Try.underlying9 rfl
instance : Fld Try.prog 24 1 1 1 false := fldok Try.underlying24 rfl rfl (by kernel_rfl) (i := ((Try.prog.info? 3).getD default)) (by kernel_rfl) Try.underlying3 rfl
instance : Fld Try.prog 24 2 2 1 false := fldok Try.underlying24 rfl rfl (by kernel_rfl) (i := ((Try.prog.info? 3).getD default)) (by kernel_rfl) Try.underlying3 rfl
instance : Bld Try.prog 24 [(0, 1), (1, 1), (2, 1)] [(.string ByteArray.empty), (.int .i64 (0)), (.int .i64 (0))] := by
  refine ⟨_, ((Try.prog.info? 24).getD default), _, Try.underlying24, by kernel_rfl, (by kernel_rfl : _ = some (.agg #[(.string ByteArray.empty), (.int .i64 (0)), (.int .i64 (0))])), rfl, fun w => by kernel_rfl⟩
instance : Flat Try.prog 24 [(9, .string), (3, (.int .i64)), (3, (.int .i64))] := by
  refine ⟨by kernel_rfl, by kernel_rfl, by kernel_rfl, by kernel_rfl, ?_⟩
  simp only [List.forall_mem_cons]
  exact ⟨⟨Try.underlying9, rfl⟩, ⟨Try.underlying3, rfl⟩, ⟨Try.underlying3, rfl⟩, fun x hx => by cases hx⟩
instance : TyU Try.prog 25 (.struct (Try.prog.fieldsOf 25)) := ⟨by kernel_rfl⟩
instance : TyI Try.prog 25 3 32 (.agg #[(.string ByteArray.empty), (.int .i64 (0)), (.int .i64 (0))]) := tyi (by kernel_rfl)
instance : Fld Try.prog 25 0 0 1 false := fldok Try.underlying25 rfl rfl (by kernel_rfl) (i := ((Try.prog.info? 9).getD default)) (by kernel_rfl) Try.underlying9 rfl
instance : Fld Try.prog 25 1 1 1 false := fldok Try.underlying25 rfl rfl (by kernel_rfl) (i := ((Try.prog.info? 3).getD default)) (by kernel_rfl) Try.underlying3 rfl
instance : Fld Try.prog 25 2 2 1 false := fldok Try.underlying25 rfl rfl (by kernel_rfl) (i := ((Try.prog.info? 3).getD default)) (by kernel_rfl) Try.underlying3 rfl
instance : Bld Try.prog 25 [(0, 1), (1, 1), (2, 1)] [(.string ByteArray.empty), (.int .i64 (0)), (.int .i64 (0))] := by
  refine ⟨_, ((Try.prog.info? 25).getD default), _, Try.underlying25, by kernel_rfl, (by kernel_rfl : _ = some (.agg #[(.string ByteArray.empty), (.int .i64 (0)), (.int .i64 (0))])), rfl, fun w => by kernel_rfl⟩
instance : Flat Try.prog 25 [(9, .string), (3, (.int .i64)), (3, (.int .i64))] := by
  refine ⟨by kernel_rfl, by kernel_rfl, by kernel_rfl, by kernel_rfl, ?_⟩
  simp only [List.forall_mem_cons]
  exact ⟨⟨Try.underlying9, rfl⟩, ⟨Try.underlying3, rfl⟩, ⟨Try.underlying3, rfl⟩, fun x hx => by cases hx⟩
instance : TyU Try.prog 28 (.int .i64) := ⟨Try.underlying28⟩
instance : TyI Try.prog 28 1 8 (.int .i64 (0)) := tyi (by kernel_rfl)
instance : TyU Try.prog 34 (.slice 51) := ⟨Try.underlying34⟩
instance : TyI Try.prog 34 1 24 (.slice none 0 0) := tyi (by kernel_rfl)
instance : TyU Try.prog 35 (.slice 77) := ⟨Try.underlying35⟩
instance : TyI Try.prog 35 1 24 (.slice none 0 0) := tyi (by kernel_rfl)
instance : TyU Try.prog 36 (.slice 56) := ⟨Try.underlying36⟩
instance : TyI Try.prog 36 1 24 (.slice none 0 0) := tyi (by kernel_rfl)
instance : TyU Try.prog 40 (.struct (Try.prog.fieldsOf 40)) := ⟨by kernel_rfl⟩
instance : TyI Try.prog 40 5 56 (.agg #[(.int .i64 (0)), (.string ByteArray.empty), (.string ByteArray.empty), (.bool false), (.int .i64 (0))]) := tyi (by kernel_rfl)
instance : Fld Try.prog 40 0 0 1 false := fldok Try.underlying40 rfl rfl (by kernel_rfl) (i := ((Try.prog.info? 3).getD default)) (by kernel_rfl) Try.underlying3 rfl
instance : Fld Try.prog 40 1 1 1 false := fldok Try.underlying40 rfl rfl (by kernel_rfl) (i := ((Try.prog.info? 9).getD default)) (by kernel_rfl) Try.underlying9 rfl
instance : Fld Try.prog 40 2 2 1 false := fldok Try.underlying40 rfl rfl (by kernel_rfl) (i := ((Try.prog.info? 9).getD default)) (by kernel_rfl) Try.underlying9 rfl
instance : Fld Try.prog 40 3 3 1 false := fldok Try.underlying40 rfl rfl (by kernel_rfl) (i := ((Try.prog.info? 4).getD default)) (by kernel_rfl) Try.underlying4 rfl
instance : Fld Try.prog 40 4 4 1 false := fldok Try.underlying40 rfl rfl (by kernel_rfl) (i := ((Try.prog.info? 3).getD default)) (by kernel_rfl) Try.underlying3 rfl
instance : Bld Try.prog 40 [(0, 1), (1, 1), (2, 1), (3, 1), (4, 1)] [(.int .i64 (0)), (.string ByteArray.empty), (.string ByteArray.empty), (.bool false), (.int .i64 (0))] := by
  refine ⟨_, ((Try.prog.info? 40).getD default), _, Try.underlying40, by kernel_rfl, (by kernel_rfl : _ = some (.agg #[(.int .i64 (0)), (.string ByteArray.empty), (.string ByteArray.empty), (.bool false), (.int .i64 (0))])), rfl, fun w => by kernel_rfl⟩
instance : Flat Try.prog 40 [(3, (.int .i64)), (9, .string), (9, .string), (4, .bool), (3, (.int .i64))] := by
  refine ⟨by kernel_rfl, by kernel_rfl, by kernel_rfl, by kernel_rfl, ?_⟩
  simp only [List.forall_mem_cons]
  exact ⟨⟨Try.underlying3, rfl⟩, ⟨Try.underlying9, rfl⟩, ⟨Try.underlying9, rfl⟩, ⟨Try.underlying4, rfl⟩, ⟨Try.underlying3, rfl⟩, fun x hx => by cases hx⟩
instance : TyU Try.prog 41 (.struct (Try.prog.fieldsOf 41)) := ⟨by kernel_rfl⟩
instance : TyI Try.prog 41 5 56 (.agg #[(.int .i64 (0)), (.string ByteArray.empty), (.string ByteArray.empty), (.bool false), (.int .i64 (0))]) := tyi (by kernel_rfl)
instance : Fld Try.prog 41 0 0 1 false := fldok Try.underlying41 rfl rfl (by kernel_rfl) (i := ((Try.prog.info? 3).getD default)) (by kernel_rfl) Try.underlying3 rfl
instance : Fld Try.prog 41 1 1 1 false := fldok Try.underlying41 rfl rfl (by kernel_rfl) (i := ((Try.prog.info? 9).getD default)) (by kernel_rfl) Try.underlying9 rfl
instance : Fld Try.prog 41 2 2 1 false := fldok Try.underlying41 rfl rfl (by kernel_rfl) (i := ((Try.prog.info? 9).getD default)) (by kernel_rfl) Try.underlying9 rfl
instance : Fld Try.prog 41 3 3 1 false := fldok Try.underlying41 rfl rfl (by kernel_rfl) (i := ((Try.prog.info? 4).getD default)) (by kernel_rfl) Try.underlying4 rfl
instance : Fld Try.prog 41 4 4 1 false := fldok Try.underlying41 rfl rfl (by kernel_rfl) (i := ((Try.prog.info? 3).getD default)) (by kernel_rfl) Try.underlying3 rfl
instance : Bld Try.prog 41 [(0, 1), (1, 1), (2, 1), (3, 1), (4, 1)] [(.int .i64 (0)), (.string ByteArray.empty), (.string ByteArray.empty), (.bool false), (.int .i64 (0))] := by
  refine ⟨_, ((Try.prog.info? 41).getD default), _, Try.underlying41, by kernel_rfl, (by kernel_rfl : _ = some (.agg #[(.int .i64 (0)), (.string ByteArray.empty), (.string ByteArray.empty), (.bool false), (.int .i64 (0))])), rfl, fun w => by kernel_rfl⟩
instance : Flat Try.prog 41 [(3, (.int .i64)), (9, .string), (9, .string), (4, .bool), (3, (.int .i64))] := by
  refine ⟨by kernel_rfl, by kernel_rfl, by kernel_rfl, by kernel_rfl, ?_⟩
  simp only [List.forall_mem_cons]
  exact ⟨⟨Try.underlying3, rfl⟩, ⟨Try.underlying9, rfl⟩, ⟨Try.underlying9, rfl⟩, ⟨Try.underlying4, rfl⟩, ⟨Try.underlying3, rfl⟩, fun x hx => by cases hx⟩
instance : TyU Try.prog 42 (.struct (Try.prog.fieldsOf 42)) := ⟨by kernel_rfl⟩
instance : TyI Try.prog 42 10 104 (.agg #[(.string ByteArray.empty), (.int .i64 (0)), (.int .i64 (0)), (.int .i64 (0)), (.int .i64 (0)), (.int .i64 (0)), (.string ByteArray.empty), (.string ByteArray.empty), (.bool false), (.int .i64 (0))]) := tyi (by kernel_rfl)
instance : Fld Try.prog 42 0 0 3 true := fldok Try.underlying42 rfl rfl (by kernel_rfl) (i := ((Try.prog.info? 25).getD default)) (by kernel_rfl) Try.underlying25 rfl
instance : Fld Try.prog 42 1 3 1 false := fldok Try.underlying42 rfl rfl (by kernel_rfl) (i := ((Try.prog.info? 3).getD default)) (by kernel_rfl) Try.underlying3 rfl
instance : Fld Try.prog 42 2 4 1 false := fldok Try.underlying42 rfl rfl (by kernel_rfl) (i := ((Try.prog.info? 3).getD default)) (by kernel_rfl) Try.underlying3 rfl
instance : Fld Try.prog 42 3 5 5 true := fldok Try.underlying42 rfl rfl (by kernel_rfl) (i := ((Try.prog.info? 41).getD default)) (by kernel_rfl) Try.underlying41 rfl
instance : Bld Try.prog 42 [(0, 3), (3, 1), (4, 1), (5, 5)] [(.string ByteArray.empty), (.int .i64 (0)), (.int .i64 (0)), (.int .i64 (0)), (.int .i64 (0)), (.int .i64 (0)), (.string ByteArray.empty), (.string ByteArray.empty), (.bool false), (.int .i64 (0))] := by
  refine ⟨_, ((Try.prog.info? 42).getD default), _, Try.underlying42, by kernel_rfl, (by kernel_rfl : _ = some (.agg #[(.string ByteArray.empty), (.int .i64 (0)), (.int .i64 (0)), (.int .i64 (0)), (.int .i64 (0)), (.int .i64 (0)), (.string ByteArray.empty), (.string ByteArray.empty), (.bool false), (.int .i64 (0))])), rfl, fun w => by kernel_rfl⟩
instance : TyU Try.prog 43 (.struct (Try.prog.fieldsOf 43)) := ⟨by kernel_rfl⟩
instance : TyI Try.prog 43 10 104 (.agg #[(.string ByteArray.empty), (.int .i64 (0)), (.int .i64 (0)), (.int .i64 (0)), (.int .i64 (0)), (.int .i64 (0)), (.string ByteArray.empty), (.string ByteArray.empty), (.bool false), (.int .i64 (0))]) := tyi (by kernel_rfl)
instance : Fld Try.prog 43 0 0 3 true := fldok Try.underlying43 rfl rfl (by kernel_rfl) (i := ((Try.prog.info? 25).getD default)) (by kernel_rfl) Try.underlying25 rfl
instance : Fld Try.prog 43 1 3 1 false := fldok Try.underlying43 rfl rfl (by kernel_rfl) (i := ((Try.prog.info? 3).getD default)) (by kernel_rfl) Try.underlying3 rfl
instance : Fld Try.prog 43 2 4 1 false := fldok Try.underlying43 rfl rfl (by kernel_rfl) (i := ((Try.prog.info? 3).getD default)) (by kernel_rfl) Try.underlying3 rfl
instance : Fld Try.prog 43 3 5 5 true := fldok Try.underlying43 rfl rfl (by kernel_rfl) (i := ((Try.prog.info? 41).getD default)) (by kernel_rfl) Try.underlying41 rfl
instance : Bld Try.prog 43 [(0, 3), (3, 1), (4, 1), (5, 5)] [(.string ByteArray.empty), (.int .i64 (0)), (.int .i64 (0)), (.int .i64 (0)), (.int .i64 (0)), (.int .i64 (0)), (.string ByteArray.empty), (.string ByteArray.empty), (.bool false), (.int .i64 (0))] := by
  refine ⟨_, ((Try.prog.info? 43).getD default), _, Try.underlying43, by kernel_rfl, (by kernel_rfl : _ = some (.agg #[(.string ByteArray.empty), (.int .i64 (0)), (.int .i64 (0)), (.int .i64 (0)), (.int .i64 (0)), (.int .i64 (0)), (.string ByteArray.empty), (.string ByteArray.empty), (.bool false), (.int .i64 (0))])), rfl, fun w => by kernel_rfl⟩
instance : TyU Try.prog 44 (.struct (Try.prog.fieldsOf 44)) := ⟨by kernel_rfl⟩
instance : TyI Try.prog 44 4 40 (.agg #[(.string ByteArray.empty), (.int .i64 (0)), (.int .i64 (0)), (.int .i64 (0))]) := tyi (by kernel_rfl)
instance : Fld Try.prog 44 0 0 3 true := fldok Try.underlying44 rfl rfl (by kernel_rfl) (i := ((Try.prog.info? 25).getD default)) (by kernel_rfl) Try.underlying25 rfl
instance : Fld Try.prog 44 1 3 1 false := fldok Try.underlying44 rfl rfl (by kernel_rfl) (i := ((Try.prog.info? 3).getD default)) (by kernel_rfl) Try.underlying3 rfl
instance : Bld Try.prog 44 [(0, 3), (3, 1)] [(.string ByteArray.empty), (.int .i64 (0)), (.int .i64 (0)), (.int .i64 (0))] := by
  refine ⟨_, ((Try.prog.info? 44).getD default), _, Try.underlying44, by kernel_rfl, (by kernel_rfl : _ = some (.agg #[(.string ByteArray.empty), (.int .i64 (0)), (.int .i64 (0)), (.int .i64 (0))])), rfl, fun w => by kernel_rfl⟩
instance : TyU Try.prog 45 (.struct (Try.prog.fieldsOf 45)) := ⟨by kernel_rfl⟩
instance : TyI Try.prog 45 4 40 (.agg #[(.string ByteArray.empty), (.int .i64 (0)), (.int .i64 (0)), (.int .i64 (0))]) := tyi (by kernel_rfl)
instance : Fld Try.prog 45 0 0 3 true := fldok Try.underlying45 rfl rfl (by kernel_rfl) (i := ((Try.prog.info? 25).getD default)) (by kernel_rfl) Try.underlying25 rfl
instance : Fld Try.prog 45 1 3 1 false := fldok Try.underlying45 rfl rfl (by kernel_rfl) (i := ((Try.prog.info? 3).getD default)) (by kernel_rfl) Try.underlying3 rfl
instance : Bld Try.prog 45 [(0, 3), (3, 1)] [(.string ByteArray.empty), (.int .i64 (0)), (.int .i64 (0)), (.int .i64 (0))] := by
  refine ⟨_, ((Try.prog.info? 45).getD default), _, Try.underlying45, by kernel_rfl, (by kernel_rfl : _ = some (.agg #[(.string ByteArray.empty), (.int .i64 (0)), (.int .i64 (0)), (.int .i64 (0))])), rfl, fun w => by kernel_rfl⟩
instance : TyU Try.prog 49 (.slice 41) := ⟨Try.underlying49⟩
instance : TyI Try.prog 49 1 24 (.slice none 0 0) := tyi (by kernel_rfl)
instance : TyU Try.prog 50 (.struct (Try.prog.fieldsOf 50)) := ⟨by kernel_rfl⟩
instance : TyI Try.prog 50 10 96 (.agg #[(.int .i64 (0)), (.int .i64 (0)), (.int .i64 (0)), (.int .i64 (0)), (.int .i64 (0)), (.int .i64 (0)), (.int .i64 (0)), (.bool false), (.int .i64 (0)), (.slice none 0 0)]) := tyi (by kernel_rfl)
instance : Fld Try.prog 50 0 0 1 false := fldok Try.underlying50 rfl rfl (by kernel_rfl) (i := ((Try.prog.info? 3).getD default)) (by kernel_rfl) Try.underlying3 rfl
instance : Fld Try.prog 50 1 1 1 false := fldok Try.underlying50 rfl rfl (by kernel_rfl) (i := ((Try.prog.info? 3).getD default)) (by kernel_rfl) Try.underlying3 rfl
instance : Fld Try.prog 50 2 2 1 false := fldok Try.underlying50 rfl rfl (by kernel_rfl) (i := ((Try.prog.info? 3).getD default)) (by kernel_rfl) Try.underlying3 rfl
instance : Fld Try.prog 50 3 3 1 false := fldok Try.underlying50 rfl rfl (by kernel_rfl) (i := ((Try.prog.info? 3).getD default)) (by kernel_rfl) Try.underlying3 rfl
instance : Fld Try.prog 50 4 4 1 false := fldok Try.underlying50 rfl rfl (by kernel_rfl) (i := ((Try.prog.info? 3).getD default)) (by kernel_rfl) Try.underlying3 rfl
instance : Fld Try.prog 50 5 5 1 false := fldok Try.underlying50 rfl rfl (by kernel_rfl) (i := ((Try.prog.info? 3).getD default)) (by kernel_rfl) Try.underlying3 rfl
instance : Fld Try.prog 50 6 6 1 false := fldok Try.underlying50 rfl rfl (by kernel_rfl) (i := ((Try.prog.info? 3).getD default)) (by kernel_rfl) Try.underlying3 rfl
instance : Fld Try.prog 50 7 7 1 false := fldok Try.underlying50 rfl rfl (by kernel_rfl) (i := ((Try.prog.info? 4).getD default)) (by kernel_rfl) Try.underlying4 rfl
instance : Fld Try.prog 50 8 8 1 false := fldok Try.underlying50 rfl rfl (by kernel_rfl) (i := ((Try.prog.info? 3).getD default)) (by kernel_rfl) Try.underlying3 rfl
instance : Fld Try.prog 50 9 9 1 false := fldok Try.underlying50 rfl rfl (by kernel_rfl) (i := ((Try.prog.info? 49).getD default)) (by kernel_rfl) Try.underlying49 rfl
instance : Bld Try.prog 50 [(0, 1), (1, 1), (2, 1), (3, 1), (4, 1), (5, 1), (6, 1), (7, 1), (8, 1), (9, 1)] [(.int .i64 (0)), (.int .i64 (0)), (.int .i64 (0)), (.int .i64 (0)), (.int .i64 (0)), (.int .i64 (0)), (.int .i64 (0)), (.bool false), (.int .i64 (0)), (.slice none 0 0)] := by
  refine ⟨_, ((Try.prog.info? 50).getD default), _, Try.underlying50, by kernel_rfl, (by kernel_rfl : _ = some (.agg #[(.int .i64 (0)), (.int .i64 (0)), (.int .i64 (0)), (.int .i64 (0)), (.int .i64 (0)), (.int .i64 (0)), (.int .i64 (0)), (.bool false), (.int .i64 (0)), (.slice none 0 0)])), rfl, fun w => by kernel_rfl⟩
instance : TyU Try.prog 51 (.struct (Try.prog.fieldsOf 51)) := ⟨by kernel_rfl⟩
instance : TyI Try.prog 51 10 96 (.agg #[(.int .i64 (0)), (.int .i64 (0)), (.int .i64 (0)), (.int .i64 (0)), (.int .i64 (0)), (.int .i64 (0)), (.int .i64 (0)), (.bool false), (.int .i64 (0)), (.slice none 0 0)]) := tyi (by kernel_rfl)
instance : Fld Try.prog 51 0 0 1 false := fldok Try.underlying51 rfl rfl (by kernel_rfl) (i := ((Try.prog.info? 3).getD default)) (by kernel_rfl) Try.underlying3 rfl
instance : Fld Try.prog 51 1 1 1 false := fldok Try.underlying51 rfl rfl (by kernel_rfl) (i := ((Try.prog.info? 3).getD default)) (by kernel_rfl) Try.underlying3 rfl
instance : Fld Try.prog 51 2 2 1 false := fldok Try.underlying51 rfl rfl (by kernel_rfl) (i := ((Try.prog.info? 3).getD default)) (by kernel_rfl) Try.underlying3 rfl
instance : Fld Try.prog 51 3 3 1 false := fldok Try.underlying51 rfl rfl (by kernel_rfl) (i := ((Try.prog.info? 3).getD default)) (by kernel_rfl) Try.underlying3 rfl
instance : Fld Try.prog 51 4 4 1 false := fldok Try.underlying51 rfl rfl (by kernel_rfl) (i := ((Try.prog.info? 3).getD default)) (by kernel_rfl) Try.underlying3 rfl
instance : Fld Try.prog 51 5 5 1 false := fldok Try.underlying51 rfl rfl (by kernel_rfl) (i := ((Try.prog.info? 3).getD default)) (by kernel_rfl) Try.underlying3 rfl
instance : Fld Try.prog 51 6 6 1 false := fldok Try.underlying51 rfl rfl (by kernel_rfl) (i := ((Try.prog.info? 3).getD default)) (by kernel_rfl) Try.underlying3 rfl
instance : Fld Try.prog 51 7 7 1 false := fldok Try.underlying51 rfl rfl (by kernel_rfl) (i := ((Try.prog.info? 4).getD default)) (by kernel_rfl) Try.underlying4 rfl
instance : Fld Try.prog 51 8 8 1 false := fldok Try.underlying51 rfl rfl (by kernel_rfl) (i := ((Try.prog.info? 3).getD default)) (by kernel_rfl) Try.underlying3 rfl
instance : Fld Try.prog 51 9 9 1 false := fldok Try.underlying51 rfl rfl (by kernel_rfl) (i := ((Try.prog.info? 49).getD default)) (by kernel_rfl) Try.underlying49 rfl
instance : Bld Try.prog 51 [(0, 1), (1, 1), (2, 1), (3, 1), (4, 1), (5, 1), (6, 1), (7, 1), (8, 1), (9, 1)] [(.int .i64 (0)), (.int .i64 (0)), (.int .i64 (0)), (.int .i64 (0)), (.int .i64 (0)), (.int .i64 (0)), (.int .i64 (0)), (.bool false), (.int .i64 (0)), (.slice none 0 0)] := by
  refine ⟨_, ((Try.prog.info? 51).getD default), _, Try.underlying51, by kernel_rfl, (by kernel_rfl : _ = some (.agg #[(.int .i64 (0)), (.int .i64 (0)), (.int .i64 (0)), (.int .i64 (0)), (.int .i64 (0)), (.int .i64 (0)), (.int .i64 (0)), (.bool false), (.int .i64 (0)), (.slice none 0 0)])), rfl, fun w => by kernel_rfl⟩
instance : TyU Try.prog 55 (.struct (Try.prog.fieldsOf 55)) := ⟨by kernel_rfl⟩
instance : TyI Try.prog 55 12 120 (.agg #[(.string ByteArray.empty), (.int .i64 (0)), (.int .i64 (0)), (.int .i64 (0)), (.int .i64 (0)), (.string ByteArray.empty), (.string ByteArray.empty), (.bool false), (.int .i64 (0)), (.int .i64 (0)), (.int .i64 (0)), (.bool false)]) := tyi (by kernel_rfl)
instance : Fld Try.prog 55 0 0 3 true := fldok Try.underlying55 rfl rfl (by kernel_rfl) (i := ((Try.prog.info? 25).getD default)) (by kernel_rfl) Try.underlying25 rfl
instance : Fld Try.prog 55 1 3 1 false := fldok Try.underlying55 rfl rfl (by kernel_rfl) (i := ((Try.prog.info? 3).getD default)) (by kernel_rfl) Try.underlying3 rfl
instance : Fld Try.prog 55 2 4 5 true := fldok Try.underlying55 rfl rfl (by kernel_rfl) (i := ((Try.prog.info? 41).getD default)) (by kernel_rfl) Try.underlying41 rfl
instance : Fld Try.prog 55 3 9 1 false := fldok Try.underlying55 rfl rfl (by kernel_rfl) (i := ((Try.prog.info? 3).getD default)) (by kernel_rfl) Try.underlying3 rfl
instance : Fld Try.prog 55 4 10 1 false := fldok Try.underlying55 rfl rfl (by kernel_rfl) (i := ((Try.prog.info? 3).getD default)) (by kernel_rfl) Try.underlying3 rfl
instance : Fld Try.prog 55 5 11 1 false := fldok Try.underlying55 rfl rfl (by kernel_rfl) (i := ((Try.prog.info? 4).getD default)) (by kernel_rfl) Try.underlying4 rfl
instance : Bld Try.prog 55 [(0, 3), (3, 1), (4, 5), (9, 1), (10, 1), (11, 1)] [(.string ByteArray.empty), (.int .i64 (0)), (.int .i64 (0)), (.int .i64 (0)), (.int .i64 (0)), (.string ByteArray.empty), (.string ByteArray.empty), (.bool false), (.int .i64 (0)), (.int .i64 (0)), (.int .i64 (0)), (.bool false)] := by
  refine ⟨_, ((Try.prog.info? 55).getD default), _, Try.underlying55, by kernel_rfl, (by kernel_rfl : _ = some (.agg #[(.string ByteArray.empty), (.int .i64 (0)), (.int .i64 (0)), (.int .i64 (0)), (.int .i64 (0)), (.string ByteArray.empty), (.string ByteArray.empty), (.bool false), (.int .i64 (0)), (.int .i64 (0)), (.int .i64 (0)), (.bool false)])), rfl, fun w => by kernel_rfl⟩
instance : TyU Try.prog 56 (.struct (Try.prog.fieldsOf 56)) := ⟨by kernel_rfl⟩
instance : TyI Try.prog 56 12 120 (.agg #[(.string ByteArray.empty), (.int .i64 (0)), (.int .i64 (0)), (.int .i64 (0)), (.int .i64 (0)), (.string ByteArray.empty), (.string ByteArray.empty), (.bool false), (.int .i64 (0)), (.int .i64 (0)), (.int .i64 (0)), (.bool false)]) := tyi (by kernel_rfl)
instance : Fld Try.prog 56 0 0 3 true := fldok Try.underlying56 rfl rfl (by kernel_rfl) (i := ((Try.prog.info? 25).getD default)) (by kernel_rfl) Try.underlying25 rfl
instance : Fld Try.prog 56 1 3 1 false := fldok Try.underlying56 rfl rfl (by kernel_rfl) (i := ((Try.prog.info? 3).getD default)) (by kernel_rfl) Try.underlying3 rfl
instance : Fld Try.prog 56 2 4 5 true := fldok Try.underlying56 rfl rfl (by kernel_rfl) (i := ((Try.prog.info? 41).getD default)) (by kernel_rfl) Try.underlying41 rfl
instance : Fld Try.prog 56 3 9 1 false := fldok Try.underlying56 rfl rfl (by kernel_rfl) (i := ((Try.prog.info? 3).getD default)) (by kernel_rfl) Try.underlying3 rfl
instance : Fld Try.prog 56 4 10 1 false := fldok Try.underlying56 rfl rfl (by kernel_rfl) (i := ((Try.prog.info? 3).getD default)) (by kernel_rfl) Try.underlying3 rfl
instance : Fld Try.prog 56 5 11 1 false := fldok Try.underlying56 rfl rfl (by kernel_rfl) (i := ((Try.prog.info? 4).getD default)) (by kernel_rfl) Try.underlying4 rfl
instance : Bld Try.prog 56 [(0, 3), (3, 1), (4, 5), (9, 1), (10, 1), (11, 1)] [(.string ByteArray.empty), (.int .i64 (0)), (.int .i64 (0)), (.int .i64 (0)), (.int .i64 (0)), (.string ByteArray.empty), (.string ByteArray.empty), (.bool false), (.int .i64 (0)), (.int .i64 (0)), (.int .i64 (0)), (.bool false)] := by
  refine ⟨_, ((Try.prog.info? 56).getD default), _, Try.underlying56, by kernel_rfl, (by kernel_rfl : _ = some (.agg #[(.string ByteArray.empty), (.int .i64 (0)), (.int .i64 (0)), (.int .i64 (0)), (.int .i64 (0)), (.string ByteArray.empty), (.string ByteArray.empty), (.bool false), (.int .i64 (0)), (.int .i64 (0)), (.int .i64 (0)), (.bool false)])), rfl, fun w => by kernel_rfl⟩
instance : TyU Try.prog 58 (.map 62 4) := ⟨Try.underlying58⟩
instance : TyI Try.prog 58 1 8 (.map none) := tyi (by kernel_rfl)
instance : TyU Try.prog 59 (.map 25 3) := ⟨Try.underlying59⟩
instance : TyI Try.prog 59 1 8 (.map none) := tyi (by kernel_rfl)
instance : TyU Try.prog 61 (.struct (Try.prog.fieldsOf 61)) := ⟨by kernel_rfl⟩
instance : TyI Try.prog 61 4 40 (.agg #[(.string ByteArray.empty), (.int .i64 (0)), (.int .i64 (0)), (.int .i64 (0))]) := tyi (by kernel_rfl)
instance : Fld Try.prog 61 0 0 3 true := fldok Try.underlying61 rfl rfl (by kernel_rfl) (i := ((Try.prog.info? 25).getD default)) (by kernel_rfl) Try.underlying25 rfl
instance : Fld Try.prog 61 1 3 1 false := fldok Try.underlying61 rfl rfl (by kernel_rfl) (i := ((Try.prog.info? 3).getD default)) (by kernel_rfl) Try.underlying3 rfl
instance : Bld Try.prog 61 [(0, 3), (3, 1)] [(.string ByteArray.empty), (.int .i64 (0)), (.int .i64 (0)), (.int .i64 (0))] := by
  refine ⟨_, ((Try.prog.info? 61).getD default), _, Try.underlying61, by kernel_rfl, (by kernel_rfl : _ = some (.agg #[(.string ByteArray.empty), (.int .i64 (0)), (.int .i64 (0)), (.int .i64 (0))])), rfl, fun w => by kernel_rfl⟩
instance : TyU Try.prog 62 (.struct (Try.prog.fieldsOf 62)) := ⟨by kernel_rfl⟩
instance : TyI Try.prog 62 4 40 (.agg #[(.string ByteArray.empty), (.int .i64 (0)), (.int .i64 (0)), (.int .i64 (0))]) := tyi (by kernel_rfl)
instance : Fld Try.prog 62 0 0 3 true := fldok Try.underlying62 rfl rfl (by kernel_rfl) (i := ((Try.prog.info? 25).getD default)) (by kernel_rfl) Try.underlying25 rfl
instance : Fld Try.prog 62 1 3 1 false := fldok Try.underlying62 rfl rfl (by kernel_rfl) (i := ((Try.prog.info? 3).getD default)) (by kernel_rfl) Try.underlying3 rfl
instance : Bld Try.prog 62 [(0, 3), (3, 1)] [(.string ByteArray.empty), (.int .i64 (0)), (.int .i64 (0)), (.int .i64 (0))] := by
  refine ⟨_, ((Try.prog.info? 62).getD default), _, Try.underlying62, by kernel_rfl, (by kernel_rfl : _ = some (.agg #[(.string ByteArray.empty), (.int .i64 (0)), (.int .i64 (0)), (.int .i64 (0))])), rfl, fun w => by kernel_rfl⟩
instance : TyU Try.prog 65 (.map 25 4) := ⟨Try.underlying65⟩
instance : TyI Try.prog 65 1 8 (.map none) := tyi (by kernel_rfl)
instance : TyU Try.prog 67 (.map 41 4) := ⟨Try.underlying67⟩
instance : TyI Try.prog 67 1 8 (.map none) := tyi (by kernel_rfl)
instance : TyU Try.prog 68 (.map 9 4) := ⟨Try.underlying68⟩
instance : TyI Try.prog 68 1 8 (.map none) := tyi (by kernel_rfl)
instance : TyU Try.prog 71 (.map 72 3) := ⟨Try.underlying71⟩
instance : TyI Try.prog 71 1 8 (.map none) := tyi (by kernel_rfl)
instance : TyU Try.prog 72 (.array 2 3) := ⟨Try.underlying72⟩
instance : TyI Try.prog 72 2 16 (.agg #[(.int .i64 (0)), (.int .i64 (0))]) := tyi (by kernel_rfl)
instance : TyU Try.prog 76 (.struct (Try.prog.fieldsOf 76)) := ⟨by kernel_rfl⟩
instance : TyI Try.prog 76 4 32 (.agg #[(.int .i64 (0)), (.int .i64 (0)), (.int .i64 (0)), (.int .i64 (0))]) := tyi (by kernel_rfl)
instance : Fld Try.prog 76 0 0 1 false := fldok Try.underlying76 rfl rfl (by kernel_rfl) (i := ((Try.prog.info? 3).getD default)) (by kernel_rfl) Try.underlying3 rfl
instance : Fld Try.prog 76 1 1 1 false := fldok Try.underlying76 rfl rfl (by kernel_rfl) (i := ((Try.prog.info? 3).getD default)) (by kernel_rfl) Try.underlying3 rfl
instance : Fld Try.prog 76 2 2 1 false := fldok Try.underlying76 rfl rfl (by kernel_rfl) (i := ((Try.prog.info? 3).getD default)) (by kernel_rfl) Try.underlying3 rfl
instance : Fld Try.prog 76 3 3 1 false := fldok Try.underlying76 rfl rfl (by kernel_rfl) (i := ((Try.prog.info? 3).getD default)) (by kernel_rfl) Try.underlying3 rfl
instance : Bld Try.prog 76 [(0, 1), (1, 1), (2, 1), (3, 1)] [(.int .i64 (0)), (.int .i64 (0)), (.int .i64 (0)), (.int .i64 (0))] := by
  refine ⟨_, ((Try.prog.info? 76).getD default), _, Try.underlying76, by kernel_rfl, (by kernel_rfl : _ = some (.agg #[(.int .i64 (0)), (.int .i64 (0)), (.int .i64 (0)), (.int .i64 (0))])), rfl, fun w => by kernel_rfl⟩
instance : Flat Try.prog 76 [(3, (.int .i64)), (3, (.int .i64)), (3, (.int .i64)), (3, (.int .i64))] := by
  refine ⟨by kernel_rfl, by kernel_rfl, by kernel_rfl, by kernel_rfl, ?_⟩
  simp only [List.forall_mem_cons]
  exact ⟨⟨Try.underlying3, rfl⟩, ⟨Try.underlying3, rfl⟩, ⟨Try.underlying3, rfl⟩, ⟨Try.underlying3, rfl⟩, fun x hx => by cases hx⟩
instance : TyU Try.prog 77 (.struct (Try.prog.fieldsOf 77)) := ⟨by kernel_rfl⟩
instance : TyI Try.prog 77 4 32 (.agg #[(.int .i64 (0)), (.int .i64 (0)), (.int .i64 (0)), (.int .i64 (0))]) := tyi (by kernel_rfl)
instance : Fld Try.prog 77 0 0 1 false := fldok Try.underlying77 rfl rfl (by kernel_rfl) (i := ((Try.prog.info? 3).getD default)) (by kernel_rfl) Try.underlying3 rfl
instance : Fld Try.prog 77 1 1 1 false := fldok Try.underlying77 rfl rfl (by kernel_rfl) (i := ((Try.prog.info? 3).getD default)) (by kernel_rfl) Try.underlying3 rfl
instance : Fld Try.prog 77 2 2 1 false := fldok Try.underlying77 rfl rfl (by kernel_rfl) (i := ((Try.prog.info? 3).getD default)) (by kernel_rfl) Try.underlying3 rfl
instance : Fld Try.prog 77 3 3 1 false := fldok Try.underlying77 rfl rfl (by kernel_rfl) (i := ((Try.prog.info? 3).getD default)) (by kernel_rfl) Try.underlying3 rfl
instance : Bld Try.prog 77 [(0, 1), (1, 1), (2, 1), (3, 1)] [(.int .i64 (0)), (.int .i64 (0)), (.int .i64 (0)), (.int .i64 (0))] := by
  refine ⟨_, ((Try.prog.info? 77).getD default), _, Try.underlying77, by kernel_rfl, (by kernel_rfl : _ = some (.agg #[(.int .i64 (0)), (.int .i64 (0)), (.int .i64 (0)), (.int .i64 (0))])), rfl, fun w => by kernel_rfl⟩
instance : Flat Try.prog 77 [(3, (.int .i64)), (3, (.int .i64)), (3, (.int .i64)), (3, (.int .i64))] := by
  refine ⟨by kernel_rfl, by kernel_rfl, by kernel_rfl, by kernel_rfl, ?_⟩
  simp only [List.forall_mem_cons]
  exact ⟨⟨Try.underlying3, rfl⟩, ⟨Try.underlying3, rfl⟩, ⟨Try.underlying3, rfl⟩, ⟨Try.underlying3, rfl⟩, fun x hx => by cases hx⟩
instance : TyU Try.prog 89 (.array 0 16) := ⟨Try.underlying89⟩
instance : TyI Try.prog 89 0 0 (.agg #[]) := tyi (by kernel_rfl)
instance : TyU Try.prog 93 (.int .u32) := ⟨Try.underlying93⟩
instance : TyI Try.prog 93 1 4 (.int .u32 (0)) := tyi (by kernel_rfl)
instance : TyU Try.prog 94 (.int .u8) := ⟨Try.underlying94⟩
instance : TyI Try.prog 94 1 1 (.int .u8 (0)) := tyi (by kernel_rfl)
instance : TyU Try.prog 95 (.int .u8) := ⟨Try.underlying95⟩
instance : TyI Try.prog 95 1 1 (.int .u8 (0)) := tyi (by kernel_rfl)
instance : TyU Try.prog 97 (.pointer 5) := ⟨Try.underlying97⟩
instance : TyI Try.prog 97 1 8 (.pointer none) := tyi (by kernel_rfl)
instance : TyU Try.prog 98 (.int .i32) := ⟨Try.underlying98⟩
instance : TyI Try.prog 98 1 4 (.int .i32 (0)) := tyi (by kernel_rfl)
instance : TyU Try.prog 99 (.int .i32) := ⟨Try.underlying99⟩
instance : TyI Try.prog 99 1 4 (.int .i32 (0)) := tyi (by kernel_rfl)
instance : TyU Try.prog 100 (.struct (Try.prog.fieldsOf 100)) := ⟨by kernel_rfl⟩
instance : TyI Try.prog 100 11 48 (.agg #[(.int .u64 (0)), (.int .u64 (0)), (.int .u32 (0)), (.int .u8 (0)), (.int .u8 (0)), (.int .u8 (0)), (.int .u8 (0)), .nilFunc, (.pointer none), (.int .i32 (0)), (.int .i32 (0))]) := tyi (by kernel_rfl)
instance : Fld Try.prog 100 0 0 1 false := fldok Try.underlying100 rfl rfl (by kernel_rfl) (i := ((Try.prog.info? 12).getD default)) (by kernel_rfl) Try.underlying12 rfl
instance : Fld Try.prog 100 1 1 1 false := fldok Try.underlying100 rfl rfl (by kernel_rfl) (i := ((Try.prog.info? 12).getD default)) (by kernel_rfl) Try.underlying12 rfl
instance : Fld Try.prog 100 2 2 1 false := fldok Try.underlying100 rfl rfl (by kernel_rfl) (i := ((Try.prog.info? 93).getD default)) (by kernel_rfl) Try.underlying93 rfl
instance : Fld Try.prog 100 3 3 1 false := fldok Try.underlying100 rfl rfl (by kernel_rfl) (i := ((Try.prog.info? 94).getD default)) (by kernel_rfl) Try.underlying94 rfl
instance : Fld Try.prog 100 4 4 1 false := fldok Try.underlying100 rfl rfl (by kernel_rfl) (i := ((Try.prog.info? 5).getD default)) (by kernel_rfl) Try.underlying5 rfl
instance : Fld Try.prog 100 5 5 1 false := fldok Try.underlying100 rfl rfl (by kernel_rfl) (i := ((Try.prog.info? 5).getD default)) (by kernel_rfl) Try.underlying5 rfl
instance : Fld Try.prog 100 6 6 1 false := fldok Try.underlying100 rfl rfl (by kernel_rfl) (i := ((Try.prog.info? 95).getD default)) (by kernel_rfl) Try.underlying95 rfl
instance : Fld Try.prog 100 8 8 1 false := fldok Try.underlying100 rfl rfl (by kernel_rfl) (i := ((Try.prog.info? 97).getD default)) (by kernel_rfl) Try.underlying97 rfl
instance : Fld Try.prog 100 9 9 1 false := fldok Try.underlying100 rfl rfl (by kernel_rfl) (i := ((Try.prog.info? 98).getD default)) (by kernel_rfl) Try.underlying98 rfl
instance : Fld Try.prog 100 10 10 1 false := fldok Try.underlying100 rfl rfl (by kernel_rfl) (i := ((Try.prog.info? 99).getD default)) (by kernel_rfl) Try.underlying99 rfl
instance : TyU Try.prog 101 (.struct (Try.prog.fieldsOf 101)) := ⟨by kernel_rfl⟩
instance : TyI Try.prog 101 11 48 (.agg #[(.int .u64 (0)), (.int .u64 (0)), (.int .u32 (0)), (.int .u8 (0)), (.int .u8 (0)), (.int .u8 (0)), (.int .u8 (0)), .nilFunc, (.pointer none), (.int .i32 (0)), (.int .i32 (0))]) := tyi (by kernel_rfl)
instance : Fld Try.prog 101 0 0 1 false := fldok Try.underlying101 rfl rfl (by kernel_rfl) (i := ((Try.prog.info? 12).getD default)) (by kernel_rfl) Try.underlying12 rfl
instance : Fld Try.prog 101 1 1 1 false := fldok Try.underlying101 rfl rfl (by kernel_rfl) (i := ((Try.prog.info? 12).getD default)) (by kernel_rfl) Try.underlying12 rfl
instance : Fld Try.prog 101 2 2 1 false := fldok Try.underlying101 rfl rfl (by kernel_rfl) (i := ((Try.prog.info? 93).getD default)) (by kernel_rfl) Try.underlying93 rfl
instance : Fld Try.prog 101 3 3 1 false := fldok Try.underlying101 rfl rfl (by kernel_rfl) (i := ((Try.prog.info? 94).getD default)) (by kernel_rfl) Try.underlying94 rfl
instance : Fld Try.prog 101 4 4 1 false := fldok Try.underlying101 rfl rfl (by kernel_rfl) (i := ((Try.prog.info? 5).getD default)) (by kernel_rfl) Try.underlying5 rfl
instance : Fld Try.prog 101 5 5 1 false := fldok Try.underlying101 rfl rfl (by kernel_rfl) (i := ((Try.prog.info? 5).getD default)) (by kernel_rfl) Try.underlying5 rfl
instance : Fld Try.prog 101 6 6 1 false := fldok Try.underlying101 rfl rfl (by kernel_rfl) (i := ((Try.prog.info? 95).getD default)) (by kernel_rfl) Try.underlying95 rfl
instance : Fld Try.prog 101 8 8 1 false := fldok Try.underlying101 rfl rfl (by kernel_rfl) (i := ((Try.prog.info? 97).getD default)) (by kernel_rfl) Try.underlying97 rfl
instance : Fld Try.prog 101 9 9 1 false := fldok Try.underlying101 rfl rfl (by kernel_rfl) (i := ((Try.prog.info? 98).getD default)) (by kernel_rfl) Try.underlying98 rfl
instance : Fld Try.prog 101 10 10 1 false := fldok Try.underlying101 rfl rfl (by kernel_rfl) (i := ((Try.prog.info? 99).getD default)) (by kernel_rfl) Try.underlying99 rfl
instance : FnOk Try.prog 3 := fnok (by kernel_rfl)
instance : FnOk Try.prog 4 := fnok (by kernel_rfl)
instance : FnOk Try.prog 5 := fnok (by kernel_rfl)
instance : FnOk Try.prog 6 := fnok (by kernel_rfl)
instance : FnOk Try.prog 7 := fnok (by kernel_rfl)
instance : FnOk Try.prog 8 := fnok (by kernel_rfl)
instance : FnOk Try.prog 9 := fnok (by kernel_rfl)
instance : FnOk Try.prog 10 := fnok (by kernel_rfl)
instance : FnOk Try.prog 11 := fnok (by kernel_rfl)
instance : FnOk Try.prog 12 := fnok (by kernel_rfl)
instance : FnOk Try.prog 13 := fnok (by kernel_rfl)
instance : FnOk Try.prog 14 := fnok (by kernel_rfl)
instance : FnOk Try.prog 15 := fnok (by kernel_rfl)
instance : FnOk Try.prog 16 := fnok (by kernel_rfl)
instance : FnOk Try.prog 17 := fnok (by kernel_rfl)
instance : FnOk Try.prog 18 := fnok (by kernel_rfl)
instance : FnOk Try.prog 19 := fnok (by kernel_rfl)
instance : FnOk Try.prog 20 := fnok (by kernel_rfl)
instance : FnOk Try.prog 21 := fnok (by kernel_rfl)
instance : FnOk Try.prog 22 := fnok (by kernel_rfl)
instance : FnOk Try.prog 23 := fnok (by kernel_rfl)
instance : FnOk Try.prog 24 := fnok (by kernel_rfl)
instance : FnOk Try.prog 25 := fnok (by kernel_rfl)
instance : FnOk Try.prog 26 := fnok (by kernel_rfl)
instance : FnOk Try.prog 27 := fnok (by kernel_rfl)
instance : FnOk Try.prog 28 := fnok (by kernel_rfl)
instance : FnOk Try.prog 29 := fnok (by kernel_rfl)
instance : FnOk Try.prog 30 := fnok (by kernel_rfl)
instance : FnOk Try.prog 31 := fnok (by kernel_rfl)
instance : FnOk Try.prog 32 := fnok (by kernel_rfl)
instance : FnOk Try.prog 33 := fnok (by kernel_rfl)
instance : FnOk Try.prog 34 := fnok (by kernel_rfl)
instance : FnOk Try.prog 35 := fnok (by kernel_rfl)
instance : FnOk Try.prog 36 := fnok (by kernel_rfl)
instance : FnOk Try.prog 37 := fnok (by kernel_rfl)
instance : FnOk Try.prog 38 := fnok (by kernel_rfl)
instance : FnOk Try.prog 39 := fnok (by kernel_rfl)
instance : FnOk Try.prog 40 := fnok (by kernel_rfl)
instance : FnOk Try.prog 41 := fnok (by kernel_rfl)
instance : FnOk Try.prog 42 := fnok (by kernel_rfl)
instance : FnOk Try.prog 43 := fnok (by kernel_rfl)
instance : FnOk Try.prog 44 := fnok (by kernel_rfl)
instance : FnOk Try.prog 45 := fnok (by kernel_rfl)
end Go.Wm

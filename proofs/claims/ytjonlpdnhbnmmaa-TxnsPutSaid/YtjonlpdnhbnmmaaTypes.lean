/-
  The facts on types and functions of this seat's program, written by a program of the prover's own out of the dump. Conditions: none.
-/
import Derived.Test.YtjonlpdnhbnmmaaCoA
import Derived.Test.YtjonlpdnhbnmmaaProg
import Derived.KernelRfl
set_option linter.all false
namespace Go.Wm
open Go.Proofs
set_option maxRecDepth 100000
theorem tyi {P : Program} {t : TypeId} {sz bs : Nat} {z : Value} (h : (P.info? t).map (fun i => (i.size, i.bytes, i.zero)) = some (sz, bs, some z)) : TyI P t sz bs z := by
  cases e : P.info? t with
  | none => simp [e] at h
  | some i => simp only [e, Option.map_some, Option.some.injEq, Prod.mk.injEq] at h; exact ⟨i, e, h.1, h.2.1, h.2.2⟩
theorem fnok {P : Program} {f : FuncId} (h : (P.funcs[f]?).map (fun fn => (fn.name == "runtime.NumGoroutine", fn.body.isNone)) = some (false, false)) : FnOk P f := by
  cases e : P.funcs[f]? with
  | none => simp [e] at h
  | some i => simp only [e, Option.map_some, Option.some.injEq, Prod.mk.injEq] at h; exact ⟨i, e, h.1, h.2⟩
theorem fldok {P : Program} {t f off sz : Nat} {ag : Bool} {fs : Array Field} {fd : Field} {i : TypeInfo} {d : TypeDesc} (h1 : P.underlying t = some (.struct fs)) (h2 : fs[f]? = some fd) (h3 : fd.offset = off) (h4 : P.info? fd.type = some i) (h5 : i.size = sz) (h6 : P.underlying fd.type = some d) (h7 : aggD d = ag) : Fld P t f off sz ag := ⟨fs, fd, d, i, h1, h2, h3, h4, h5, h6, h7⟩
instance : Mixed Try.prog := ⟨by kernel_rfl⟩
instance : TyU Try.prog 2 (.int .i64) := ⟨Try.underlying2⟩
instance : TyI Try.prog 2 1 8 (.int .i64 (0)) := tyi (by kernel_rfl)
instance : TyU Try.prog 3 (.int .i64) := ⟨Try.underlying3⟩
instance : TyI Try.prog 3 1 8 (.int .i64 (0)) := tyi (by kernel_rfl)
instance : TyU Try.prog 4 .bool := ⟨Try.underlying4⟩
instance : TyI Try.prog 4 1 1 (.bool false) := tyi (by kernel_rfl)
instance : TyU Try.prog 5 (.int .u8) := ⟨Try.underlying5⟩
instance : TyI Try.prog 5 1 1 (.int .u8 (0)) := tyi (by kernel_rfl)
instance : TyU Try.prog 6 (.int .u8) := ⟨Try.underlying6⟩
instance : TyI Try.prog 6 1 1 (.int .u8 (0)) := tyi (by kernel_rfl)
instance : TyU Try.prog 9 .string := ⟨Try.underlying9⟩
instance : TyI Try.prog 9 1 16 (.string ByteArray.empty) := tyi (by kernel_rfl)
instance : TyU Try.prog 10 .string := ⟨Try.underlying10⟩
instance : TyI Try.prog 10 1 16 (.string ByteArray.empty) := tyi (by kernel_rfl)
instance : TyU Try.prog 11 .string := ⟨Try.underlying11⟩
instance : TyI Try.prog 11 1 16 (.string ByteArray.empty) := tyi (by kernel_rfl)
instance : TyU Try.prog 12 (.int .u64) := ⟨Try.underlying12⟩
instance : TyI Try.prog 12 1 8 (.int .u64 (0)) := tyi (by kernel_rfl)
instance : TyU Try.prog 15 (.pointer 176) := ⟨Try.underlying15⟩
instance : TyI Try.prog 15 1 8 (.pointer none) := tyi (by kernel_rfl)
instance : TyU Try.prog 16 (.pointer 179) := ⟨Try.underlying16⟩
instance : TyI Try.prog 16 1 8 (.pointer none) := tyi (by kernel_rfl)
instance : TyU Try.prog 17 (.pointer 188) := ⟨Try.underlying17⟩
instance : TyI Try.prog 17 1 8 (.pointer none) := tyi (by kernel_rfl)
instance : TyU Try.prog 21 (.int .i32) := ⟨Try.underlying21⟩
instance : TyI Try.prog 21 1 4 (.int .i32 (0)) := tyi (by kernel_rfl)
instance : TyU Try.prog 22 (.slice 45) := ⟨Try.underlying22⟩
instance : TyI Try.prog 22 1 24 (.slice none 0 0) := tyi (by kernel_rfl)
instance : TyU Try.prog 23 (.slice 39) := ⟨Try.underlying23⟩
instance : TyI Try.prog 23 1 24 (.slice none 0 0) := tyi (by kernel_rfl)
instance : TyU Try.prog 27 (.int .i64) := ⟨Try.underlying27⟩
instance : TyI Try.prog 27 1 8 (.int .i64 (0)) := tyi (by kernel_rfl)
instance : TyU Try.prog 32 (.struct (Try.prog.fieldsOf 32)) := ⟨by kernel_rfl⟩
instance : TyI Try.prog 32 3 32 (.agg #[(.string ByteArray.empty), (.int .i64 (0)), (.int .i64 (0))]) := tyi (by kernel_rfl)
instance : Fld Try.prog 32 0 0 1 false := fldok Try.underlying32 rfl rfl (by kernel_rfl) (i := ((Try.prog.info? 9).getD default)) (by kernel_rfl) Try.underlying9 rfl
instance : Fld Try.prog 32 1 1 1 false := fldok Try.underlying32 rfl rfl (by kernel_rfl) (i := ((Try.prog.info? 3).getD default)) (by kernel_rfl) Try.underlying3 rfl
instance : Fld Try.prog 32 2 2 1 false := fldok Try.underlying32 rfl rfl (by kernel_rfl) (i := ((Try.prog.info? 3).getD default)) (by kernel_rfl) Try.underlying3 rfl
instance : Bld Try.prog 32 [(0, 1), (1, 1), (2, 1)] [(.string ByteArray.empty), (.int .i64 (0)), (.int .i64 (0))] := by
  refine ⟨_, ((Try.prog.info? 32).getD default), _, Try.underlying32, by kernel_rfl, (by kernel_rfl : _ = some (.agg #[(.string ByteArray.empty), (.int .i64 (0)), (.int .i64 (0))])), rfl, fun w => by kernel_rfl⟩
instance : Flat Try.prog 32 [(9, .string), (3, (.int .i64)), (3, (.int .i64))] := by
  refine ⟨by kernel_rfl, by kernel_rfl, by kernel_rfl, by kernel_rfl, ?_⟩
  simp only [List.forall_mem_cons]
  exact ⟨⟨Try.underlying9, rfl⟩, ⟨Try.underlying3, rfl⟩, ⟨Try.underlying3, rfl⟩, fun x hx => by cases hx⟩
instance : TyU Try.prog 33 (.struct (Try.prog.fieldsOf 33)) := ⟨by kernel_rfl⟩
instance : TyI Try.prog 33 3 32 (.agg #[(.string ByteArray.empty), (.int .i64 (0)), (.int .i64 (0))]) := tyi (by kernel_rfl)
instance : Fld Try.prog 33 0 0 1 false := fldok Try.underlying33 rfl rfl (by kernel_rfl) (i := ((Try.prog.info? 9).getD default)) (by kernel_rfl) Try.underlying9 rfl
instance : Fld Try.prog 33 1 1 1 false := fldok Try.underlying33 rfl rfl (by kernel_rfl) (i := ((Try.prog.info? 3).getD default)) (by kernel_rfl) Try.underlying3 rfl
instance : Fld Try.prog 33 2 2 1 false := fldok Try.underlying33 rfl rfl (by kernel_rfl) (i := ((Try.prog.info? 3).getD default)) (by kernel_rfl) Try.underlying3 rfl
instance : Bld Try.prog 33 [(0, 1), (1, 1), (2, 1)] [(.string ByteArray.empty), (.int .i64 (0)), (.int .i64 (0))] := by
  refine ⟨_, ((Try.prog.info? 33).getD default), _, Try.underlying33, by kernel_rfl, (by kernel_rfl : _ = some (.agg #[(.string ByteArray.empty), (.int .i64 (0)), (.int .i64 (0))])), rfl, fun w => by kernel_rfl⟩
instance : Flat Try.prog 33 [(9, .string), (3, (.int .i64)), (3, (.int .i64))] := by
  refine ⟨by kernel_rfl, by kernel_rfl, by kernel_rfl, by kernel_rfl, ?_⟩
  simp only [List.forall_mem_cons]
  exact ⟨⟨Try.underlying9, rfl⟩, ⟨Try.underlying3, rfl⟩, ⟨Try.underlying3, rfl⟩, fun x hx => by cases hx⟩
instance : TyU Try.prog 38 (.struct (Try.prog.fieldsOf 38)) := ⟨by kernel_rfl⟩
instance : TyI Try.prog 38 4 40 (.agg #[(.string ByteArray.empty), (.int .i64 (0)), (.int .i64 (0)), (.int .i64 (0))]) := tyi (by kernel_rfl)
instance : Fld Try.prog 38 0 0 3 true := fldok Try.underlying38 rfl rfl (by kernel_rfl) (i := ((Try.prog.info? 33).getD default)) (by kernel_rfl) Try.underlying33 rfl
instance : Fld Try.prog 38 1 3 1 false := fldok Try.underlying38 rfl rfl (by kernel_rfl) (i := ((Try.prog.info? 3).getD default)) (by kernel_rfl) Try.underlying3 rfl
instance : Bld Try.prog 38 [(0, 3), (3, 1)] [(.string ByteArray.empty), (.int .i64 (0)), (.int .i64 (0)), (.int .i64 (0))] := by
  refine ⟨_, ((Try.prog.info? 38).getD default), _, Try.underlying38, by kernel_rfl, (by kernel_rfl : _ = some (.agg #[(.string ByteArray.empty), (.int .i64 (0)), (.int .i64 (0)), (.int .i64 (0))])), rfl, fun w => by kernel_rfl⟩
instance : TyU Try.prog 39 (.struct (Try.prog.fieldsOf 39)) := ⟨by kernel_rfl⟩
instance : TyI Try.prog 39 4 40 (.agg #[(.string ByteArray.empty), (.int .i64 (0)), (.int .i64 (0)), (.int .i64 (0))]) := tyi (by kernel_rfl)
instance : Fld Try.prog 39 0 0 3 true := fldok Try.underlying39 rfl rfl (by kernel_rfl) (i := ((Try.prog.info? 33).getD default)) (by kernel_rfl) Try.underlying33 rfl
instance : Fld Try.prog 39 1 3 1 false := fldok Try.underlying39 rfl rfl (by kernel_rfl) (i := ((Try.prog.info? 3).getD default)) (by kernel_rfl) Try.underlying3 rfl
instance : Bld Try.prog 39 [(0, 3), (3, 1)] [(.string ByteArray.empty), (.int .i64 (0)), (.int .i64 (0)), (.int .i64 (0))] := by
  refine ⟨_, ((Try.prog.info? 39).getD default), _, Try.underlying39, by kernel_rfl, (by kernel_rfl : _ = some (.agg #[(.string ByteArray.empty), (.int .i64 (0)), (.int .i64 (0)), (.int .i64 (0))])), rfl, fun w => by kernel_rfl⟩
instance : TyU Try.prog 40 (.slice 76) := ⟨Try.underlying40⟩
instance : TyI Try.prog 40 1 24 (.slice none 0 0) := tyi (by kernel_rfl)
instance : TyU Try.prog 41 (.slice 56) := ⟨Try.underlying41⟩
instance : TyI Try.prog 41 1 24 (.slice none 0 0) := tyi (by kernel_rfl)
instance : TyU Try.prog 42 (.struct (Try.prog.fieldsOf 42)) := ⟨by kernel_rfl⟩
instance : TyI Try.prog 42 3 72 (.agg #[(.slice none 0 0), (.slice none 0 0), (.slice none 0 0)]) := tyi (by kernel_rfl)
instance : Fld Try.prog 42 0 0 1 false := fldok Try.underlying42 rfl rfl (by kernel_rfl) (i := ((Try.prog.info? 40).getD default)) (by kernel_rfl) Try.underlying40 rfl
instance : Fld Try.prog 42 1 1 1 false := fldok Try.underlying42 rfl rfl (by kernel_rfl) (i := ((Try.prog.info? 41).getD default)) (by kernel_rfl) Try.underlying41 rfl
instance : Fld Try.prog 42 2 2 1 false := fldok Try.underlying42 rfl rfl (by kernel_rfl) (i := ((Try.prog.info? 41).getD default)) (by kernel_rfl) Try.underlying41 rfl
instance : Bld Try.prog 42 [(0, 1), (1, 1), (2, 1)] [(.slice none 0 0), (.slice none 0 0), (.slice none 0 0)] := by
  refine ⟨_, ((Try.prog.info? 42).getD default), _, Try.underlying42, by kernel_rfl, (by kernel_rfl : _ = some (.agg #[(.slice none 0 0), (.slice none 0 0), (.slice none 0 0)])), rfl, fun w => by kernel_rfl⟩
instance : TyU Try.prog 43 (.struct (Try.prog.fieldsOf 43)) := ⟨by kernel_rfl⟩
instance : TyI Try.prog 43 3 72 (.agg #[(.slice none 0 0), (.slice none 0 0), (.slice none 0 0)]) := tyi (by kernel_rfl)
instance : Fld Try.prog 43 0 0 1 false := fldok Try.underlying43 rfl rfl (by kernel_rfl) (i := ((Try.prog.info? 40).getD default)) (by kernel_rfl) Try.underlying40 rfl
instance : Fld Try.prog 43 1 1 1 false := fldok Try.underlying43 rfl rfl (by kernel_rfl) (i := ((Try.prog.info? 41).getD default)) (by kernel_rfl) Try.underlying41 rfl
instance : Fld Try.prog 43 2 2 1 false := fldok Try.underlying43 rfl rfl (by kernel_rfl) (i := ((Try.prog.info? 41).getD default)) (by kernel_rfl) Try.underlying41 rfl
instance : Bld Try.prog 43 [(0, 1), (1, 1), (2, 1)] [(.slice none 0 0), (.slice none 0 0), (.slice none 0 0)] := by
  refine ⟨_, ((Try.prog.info? 43).getD default), _, Try.underlying43, by kernel_rfl, (by kernel_rfl : _ = some (.agg #[(.slice none 0 0), (.slice none 0 0), (.slice none 0 0)])), rfl, fun w => by kernel_rfl⟩
instance : TyU Try.prog 44 (.struct (Try.prog.fieldsOf 44)) := ⟨by kernel_rfl⟩
instance : TyI Try.prog 44 7 112 (.agg #[(.string ByteArray.empty), (.int .i64 (0)), (.int .i64 (0)), (.slice none 0 0), (.slice none 0 0), (.slice none 0 0), (.int .i64 (0))]) := tyi (by kernel_rfl)
instance : Fld Try.prog 44 0 0 3 true := fldok Try.underlying44 rfl rfl (by kernel_rfl) (i := ((Try.prog.info? 33).getD default)) (by kernel_rfl) Try.underlying33 rfl
instance : Fld Try.prog 44 1 3 3 true := fldok Try.underlying44 rfl rfl (by kernel_rfl) (i := ((Try.prog.info? 43).getD default)) (by kernel_rfl) Try.underlying43 rfl
instance : Fld Try.prog 44 2 6 1 false := fldok Try.underlying44 rfl rfl (by kernel_rfl) (i := ((Try.prog.info? 3).getD default)) (by kernel_rfl) Try.underlying3 rfl
instance : Bld Try.prog 44 [(0, 3), (3, 3), (6, 1)] [(.string ByteArray.empty), (.int .i64 (0)), (.int .i64 (0)), (.slice none 0 0), (.slice none 0 0), (.slice none 0 0), (.int .i64 (0))] := by
  refine ⟨_, ((Try.prog.info? 44).getD default), _, Try.underlying44, by kernel_rfl, (by kernel_rfl : _ = some (.agg #[(.string ByteArray.empty), (.int .i64 (0)), (.int .i64 (0)), (.slice none 0 0), (.slice none 0 0), (.slice none 0 0), (.int .i64 (0))])), rfl, fun w => by kernel_rfl⟩
instance : TyU Try.prog 45 (.struct (Try.prog.fieldsOf 45)) := ⟨by kernel_rfl⟩
instance : TyI Try.prog 45 7 112 (.agg #[(.string ByteArray.empty), (.int .i64 (0)), (.int .i64 (0)), (.slice none 0 0), (.slice none 0 0), (.slice none 0 0), (.int .i64 (0))]) := tyi (by kernel_rfl)
instance : Fld Try.prog 45 0 0 3 true := fldok Try.underlying45 rfl rfl (by kernel_rfl) (i := ((Try.prog.info? 33).getD default)) (by kernel_rfl) Try.underlying33 rfl
instance : Fld Try.prog 45 1 3 3 true := fldok Try.underlying45 rfl rfl (by kernel_rfl) (i := ((Try.prog.info? 43).getD default)) (by kernel_rfl) Try.underlying43 rfl
instance : Fld Try.prog 45 2 6 1 false := fldok Try.underlying45 rfl rfl (by kernel_rfl) (i := ((Try.prog.info? 3).getD default)) (by kernel_rfl) Try.underlying3 rfl
instance : Bld Try.prog 45 [(0, 3), (3, 3), (6, 1)] [(.string ByteArray.empty), (.int .i64 (0)), (.int .i64 (0)), (.slice none 0 0), (.slice none 0 0), (.slice none 0 0), (.int .i64 (0))] := by
  refine ⟨_, ((Try.prog.info? 45).getD default), _, Try.underlying45, by kernel_rfl, (by kernel_rfl : _ = some (.agg #[(.string ByteArray.empty), (.int .i64 (0)), (.int .i64 (0)), (.slice none 0 0), (.slice none 0 0), (.slice none 0 0), (.int .i64 (0))])), rfl, fun w => by kernel_rfl⟩
instance : TyU Try.prog 50 (.slice 54) := ⟨Try.underlying50⟩
instance : TyI Try.prog 50 1 24 (.slice none 0 0) := tyi (by kernel_rfl)
instance : TyU Try.prog 54 (.slice 60) := ⟨Try.underlying54⟩
instance : TyI Try.prog 54 1 24 (.slice none 0 0) := tyi (by kernel_rfl)
instance : TyU Try.prog 55 (.struct (Try.prog.fieldsOf 55)) := ⟨by kernel_rfl⟩
instance : TyI Try.prog 55 4 32 (.agg #[(.int .i64 (0)), (.int .i64 (0)), (.int .i64 (0)), (.int .i64 (0))]) := tyi (by kernel_rfl)
instance : Fld Try.prog 55 0 0 1 false := fldok Try.underlying55 rfl rfl (by kernel_rfl) (i := ((Try.prog.info? 3).getD default)) (by kernel_rfl) Try.underlying3 rfl
instance : Fld Try.prog 55 1 1 1 false := fldok Try.underlying55 rfl rfl (by kernel_rfl) (i := ((Try.prog.info? 3).getD default)) (by kernel_rfl) Try.underlying3 rfl
instance : Fld Try.prog 55 2 2 1 false := fldok Try.underlying55 rfl rfl (by kernel_rfl) (i := ((Try.prog.info? 3).getD default)) (by kernel_rfl) Try.underlying3 rfl
instance : Fld Try.prog 55 3 3 1 false := fldok Try.underlying55 rfl rfl (by kernel_rfl) (i := ((Try.prog.info? 3).getD default)) (by kernel_rfl) Try.underlying3 rfl
instance : Bld Try.prog 55 [(0, 1), (1, 1), (2, 1), (3, 1)] [(.int .i64 (0)), (.int .i64 (0)), (.int .i64 (0)), (.int .i64 (0))] := by
  refine ⟨_, ((Try.prog.info? 55).getD default), _, Try.underlying55, by kernel_rfl, (by kernel_rfl : _ = some (.agg #[(.int .i64 (0)), (.int .i64 (0)), (.int .i64 (0)), (.int .i64 (0))])), rfl, fun w => by kernel_rfl⟩
instance : Flat Try.prog 55 [(3, (.int .i64)), (3, (.int .i64)), (3, (.int .i64)), (3, (.int .i64))] := by
  refine ⟨by kernel_rfl, by kernel_rfl, by kernel_rfl, by kernel_rfl, ?_⟩
  simp only [List.forall_mem_cons]
  exact ⟨⟨Try.underlying3, rfl⟩, ⟨Try.underlying3, rfl⟩, ⟨Try.underlying3, rfl⟩, ⟨Try.underlying3, rfl⟩, fun x hx => by cases hx⟩
instance : TyU Try.prog 56 (.struct (Try.prog.fieldsOf 56)) := ⟨by kernel_rfl⟩
instance : TyI Try.prog 56 4 32 (.agg #[(.int .i64 (0)), (.int .i64 (0)), (.int .i64 (0)), (.int .i64 (0))]) := tyi (by kernel_rfl)
instance : Fld Try.prog 56 0 0 1 false := fldok Try.underlying56 rfl rfl (by kernel_rfl) (i := ((Try.prog.info? 3).getD default)) (by kernel_rfl) Try.underlying3 rfl
instance : Fld Try.prog 56 1 1 1 false := fldok Try.underlying56 rfl rfl (by kernel_rfl) (i := ((Try.prog.info? 3).getD default)) (by kernel_rfl) Try.underlying3 rfl
instance : Fld Try.prog 56 2 2 1 false := fldok Try.underlying56 rfl rfl (by kernel_rfl) (i := ((Try.prog.info? 3).getD default)) (by kernel_rfl) Try.underlying3 rfl
instance : Fld Try.prog 56 3 3 1 false := fldok Try.underlying56 rfl rfl (by kernel_rfl) (i := ((Try.prog.info? 3).getD default)) (by kernel_rfl) Try.underlying3 rfl
instance : Bld Try.prog 56 [(0, 1), (1, 1), (2, 1), (3, 1)] [(.int .i64 (0)), (.int .i64 (0)), (.int .i64 (0)), (.int .i64 (0))] := by
  refine ⟨_, ((Try.prog.info? 56).getD default), _, Try.underlying56, by kernel_rfl, (by kernel_rfl : _ = some (.agg #[(.int .i64 (0)), (.int .i64 (0)), (.int .i64 (0)), (.int .i64 (0))])), rfl, fun w => by kernel_rfl⟩
instance : Flat Try.prog 56 [(3, (.int .i64)), (3, (.int .i64)), (3, (.int .i64)), (3, (.int .i64))] := by
  refine ⟨by kernel_rfl, by kernel_rfl, by kernel_rfl, by kernel_rfl, ?_⟩
  simp only [List.forall_mem_cons]
  exact ⟨⟨Try.underlying3, rfl⟩, ⟨Try.underlying3, rfl⟩, ⟨Try.underlying3, rfl⟩, ⟨Try.underlying3, rfl⟩, fun x hx => by cases hx⟩
instance : TyU Try.prog 58 (.slice 107) := ⟨Try.underlying58⟩
instance : TyI Try.prog 58 1 24 (.slice none 0 0) := tyi (by kernel_rfl)
instance : TyU Try.prog 59 (.struct (Try.prog.fieldsOf 59)) := ⟨by kernel_rfl⟩
instance : TyI Try.prog 59 10 96 (.agg #[(.int .i64 (0)), (.int .i64 (0)), (.int .i64 (0)), (.int .i64 (0)), (.int .i64 (0)), (.int .i64 (0)), (.int .i64 (0)), (.bool false), (.int .i64 (0)), (.slice none 0 0)]) := tyi (by kernel_rfl)
instance : Fld Try.prog 59 0 0 1 false := fldok Try.underlying59 rfl rfl (by kernel_rfl) (i := ((Try.prog.info? 3).getD default)) (by kernel_rfl) Try.underlying3 rfl
instance : Fld Try.prog 59 1 1 1 false := fldok Try.underlying59 rfl rfl (by kernel_rfl) (i := ((Try.prog.info? 3).getD default)) (by kernel_rfl) Try.underlying3 rfl
instance : Fld Try.prog 59 2 2 1 false := fldok Try.underlying59 rfl rfl (by kernel_rfl) (i := ((Try.prog.info? 3).getD default)) (by kernel_rfl) Try.underlying3 rfl
instance : Fld Try.prog 59 3 3 1 false := fldok Try.underlying59 rfl rfl (by kernel_rfl) (i := ((Try.prog.info? 3).getD default)) (by kernel_rfl) Try.underlying3 rfl
instance : Fld Try.prog 59 4 4 1 false := fldok Try.underlying59 rfl rfl (by kernel_rfl) (i := ((Try.prog.info? 3).getD default)) (by kernel_rfl) Try.underlying3 rfl
instance : Fld Try.prog 59 5 5 1 false := fldok Try.underlying59 rfl rfl (by kernel_rfl) (i := ((Try.prog.info? 3).getD default)) (by kernel_rfl) Try.underlying3 rfl
instance : Fld Try.prog 59 6 6 1 false := fldok Try.underlying59 rfl rfl (by kernel_rfl) (i := ((Try.prog.info? 3).getD default)) (by kernel_rfl) Try.underlying3 rfl
instance : Fld Try.prog 59 7 7 1 false := fldok Try.underlying59 rfl rfl (by kernel_rfl) (i := ((Try.prog.info? 4).getD default)) (by kernel_rfl) Try.underlying4 rfl
instance : Fld Try.prog 59 8 8 1 false := fldok Try.underlying59 rfl rfl (by kernel_rfl) (i := ((Try.prog.info? 3).getD default)) (by kernel_rfl) Try.underlying3 rfl
instance : Fld Try.prog 59 9 9 1 false := fldok Try.underlying59 rfl rfl (by kernel_rfl) (i := ((Try.prog.info? 58).getD default)) (by kernel_rfl) Try.underlying58 rfl
instance : Bld Try.prog 59 [(0, 1), (1, 1), (2, 1), (3, 1), (4, 1), (5, 1), (6, 1), (7, 1), (8, 1), (9, 1)] [(.int .i64 (0)), (.int .i64 (0)), (.int .i64 (0)), (.int .i64 (0)), (.int .i64 (0)), (.int .i64 (0)), (.int .i64 (0)), (.bool false), (.int .i64 (0)), (.slice none 0 0)] := by
  refine ⟨_, ((Try.prog.info? 59).getD default), _, Try.underlying59, by kernel_rfl, (by kernel_rfl : _ = some (.agg #[(.int .i64 (0)), (.int .i64 (0)), (.int .i64 (0)), (.int .i64 (0)), (.int .i64 (0)), (.int .i64 (0)), (.int .i64 (0)), (.bool false), (.int .i64 (0)), (.slice none 0 0)])), rfl, fun w => by kernel_rfl⟩
instance : TyU Try.prog 60 (.struct (Try.prog.fieldsOf 60)) := ⟨by kernel_rfl⟩
instance : TyI Try.prog 60 10 96 (.agg #[(.int .i64 (0)), (.int .i64 (0)), (.int .i64 (0)), (.int .i64 (0)), (.int .i64 (0)), (.int .i64 (0)), (.int .i64 (0)), (.bool false), (.int .i64 (0)), (.slice none 0 0)]) := tyi (by kernel_rfl)
instance : Fld Try.prog 60 0 0 1 false := fldok Try.underlying60 rfl rfl (by kernel_rfl) (i := ((Try.prog.info? 3).getD default)) (by kernel_rfl) Try.underlying3 rfl
instance : Fld Try.prog 60 1 1 1 false := fldok Try.underlying60 rfl rfl (by kernel_rfl) (i := ((Try.prog.info? 3).getD default)) (by kernel_rfl) Try.underlying3 rfl
instance : Fld Try.prog 60 2 2 1 false := fldok Try.underlying60 rfl rfl (by kernel_rfl) (i := ((Try.prog.info? 3).getD default)) (by kernel_rfl) Try.underlying3 rfl
instance : Fld Try.prog 60 3 3 1 false := fldok Try.underlying60 rfl rfl (by kernel_rfl) (i := ((Try.prog.info? 3).getD default)) (by kernel_rfl) Try.underlying3 rfl
instance : Fld Try.prog 60 4 4 1 false := fldok Try.underlying60 rfl rfl (by kernel_rfl) (i := ((Try.prog.info? 3).getD default)) (by kernel_rfl) Try.underlying3 rfl
instance : Fld Try.prog 60 5 5 1 false := fldok Try.underlying60 rfl rfl (by kernel_rfl) (i := ((Try.prog.info? 3).getD default)) (by kernel_rfl) Try.underlying3 rfl
instance : Fld Try.prog 60 6 6 1 false := fldok Try.underlying60 rfl rfl (by kernel_rfl) (i := ((Try.prog.info? 3).getD default)) (by kernel_rfl) Try.underlying3 rfl
instance : Fld Try.prog 60 7 7 1 false := fldok Try.underlying60 rfl rfl (by kernel_rfl) (i := ((Try.prog.info? 4).getD default)) (by kernel_rfl) Try.underlying4 rfl
instance : Fld Try.prog 60 8 8 1 false := fldok Try.underlying60 rfl rfl (by kernel_rfl) (i := ((Try.prog.info? 3).getD default)) (by kernel_rfl) Try.underlying3 rfl
instance : Fld Try.prog 60 9 9 1 false := fldok Try.underlying60 rfl rfl (by kernel_rfl) (i := ((Try.prog.info? 58).getD default)) (by kernel_rfl) Try.underlying58 rfl
instance : Bld Try.prog 60 [(0, 1), (1, 1), (2, 1), (3, 1), (4, 1), (5, 1), (6, 1), (7, 1), (8, 1), (9, 1)] [(.int .i64 (0)), (.int .i64 (0)), (.int .i64 (0)), (.int .i64 (0)), (.int .i64 (0)), (.int .i64 (0)), (.int .i64 (0)), (.bool false), (.int .i64 (0)), (.slice none 0 0)] := by
  refine ⟨_, ((Try.prog.info? 60).getD default), _, Try.underlying60, by kernel_rfl, (by kernel_rfl : _ = some (.agg #[(.int .i64 (0)), (.int .i64 (0)), (.int .i64 (0)), (.int .i64 (0)), (.int .i64 (0)), (.int .i64 (0)), (.int .i64 (0)), (.bool false), (.int .i64 (0)), (.slice none 0 0)])), rfl, fun w => by kernel_rfl⟩
instance : TyU Try.prog 75 (.struct (Try.prog.fieldsOf 75)) := ⟨by kernel_rfl⟩
instance : TyI Try.prog 75 2 16 (.agg #[(.int .i64 (0)), (.int .i64 (0))]) := tyi (by kernel_rfl)
instance : Fld Try.prog 75 0 0 1 false := fldok Try.underlying75 rfl rfl (by kernel_rfl) (i := ((Try.prog.info? 3).getD default)) (by kernel_rfl) Try.underlying3 rfl
instance : Fld Try.prog 75 1 1 1 false := fldok Try.underlying75 rfl rfl (by kernel_rfl) (i := ((Try.prog.info? 3).getD default)) (by kernel_rfl) Try.underlying3 rfl
instance : Bld Try.prog 75 [(0, 1), (1, 1)] [(.int .i64 (0)), (.int .i64 (0))] := by
  refine ⟨_, ((Try.prog.info? 75).getD default), _, Try.underlying75, by kernel_rfl, (by kernel_rfl : _ = some (.agg #[(.int .i64 (0)), (.int .i64 (0))])), rfl, fun w => by kernel_rfl⟩
instance : Flat Try.prog 75 [(3, (.int .i64)), (3, (.int .i64))] := by
  refine ⟨by kernel_rfl, by kernel_rfl, by kernel_rfl, by kernel_rfl, ?_⟩
  simp only [List.forall_mem_cons]
  exact ⟨⟨Try.underlying3, rfl⟩, ⟨Try.underlying3, rfl⟩, fun x hx => by cases hx⟩
instance : TyU Try.prog 76 (.struct (Try.prog.fieldsOf 76)) := ⟨by kernel_rfl⟩
instance : TyI Try.prog 76 2 16 (.agg #[(.int .i64 (0)), (.int .i64 (0))]) := tyi (by kernel_rfl)
instance : Fld Try.prog 76 0 0 1 false := fldok Try.underlying76 rfl rfl (by kernel_rfl) (i := ((Try.prog.info? 3).getD default)) (by kernel_rfl) Try.underlying3 rfl
instance : Fld Try.prog 76 1 1 1 false := fldok Try.underlying76 rfl rfl (by kernel_rfl) (i := ((Try.prog.info? 3).getD default)) (by kernel_rfl) Try.underlying3 rfl
instance : Bld Try.prog 76 [(0, 1), (1, 1)] [(.int .i64 (0)), (.int .i64 (0))] := by
  refine ⟨_, ((Try.prog.info? 76).getD default), _, Try.underlying76, by kernel_rfl, (by kernel_rfl : _ = some (.agg #[(.int .i64 (0)), (.int .i64 (0))])), rfl, fun w => by kernel_rfl⟩
instance : Flat Try.prog 76 [(3, (.int .i64)), (3, (.int .i64))] := by
  refine ⟨by kernel_rfl, by kernel_rfl, by kernel_rfl, by kernel_rfl, ?_⟩
  simp only [List.forall_mem_cons]
  exact ⟨⟨Try.underlying3, rfl⟩, ⟨Try.underlying3, rfl⟩, fun x hx => by cases hx⟩
instance : TyU Try.prog 84 (.slice 3) := ⟨Try.underlying84⟩
instance : TyI Try.prog 84 1 24 (.slice none 0 0) := tyi (by kernel_rfl)
instance : TyU Try.prog 86 (.map 89 90) := ⟨Try.underlying86⟩
instance : TyI Try.prog 86 1 8 (.map none) := tyi (by kernel_rfl)
instance : TyU Try.prog 88 (.struct (Try.prog.fieldsOf 88)) := ⟨by kernel_rfl⟩
instance : TyI Try.prog 88 3 24 (.agg #[(.int .i64 (0)), (.int .i64 (0)), (.int .i64 (0))]) := tyi (by kernel_rfl)
instance : Fld Try.prog 88 0 0 1 false := fldok Try.underlying88 rfl rfl (by kernel_rfl) (i := ((Try.prog.info? 3).getD default)) (by kernel_rfl) Try.underlying3 rfl
instance : Fld Try.prog 88 1 1 1 false := fldok Try.underlying88 rfl rfl (by kernel_rfl) (i := ((Try.prog.info? 3).getD default)) (by kernel_rfl) Try.underlying3 rfl
instance : Fld Try.prog 88 2 2 1 false := fldok Try.underlying88 rfl rfl (by kernel_rfl) (i := ((Try.prog.info? 3).getD default)) (by kernel_rfl) Try.underlying3 rfl
instance : Bld Try.prog 88 [(0, 1), (1, 1), (2, 1)] [(.int .i64 (0)), (.int .i64 (0)), (.int .i64 (0))] := by
  refine ⟨_, ((Try.prog.info? 88).getD default), _, Try.underlying88, by kernel_rfl, (by kernel_rfl : _ = some (.agg #[(.int .i64 (0)), (.int .i64 (0)), (.int .i64 (0))])), rfl, fun w => by kernel_rfl⟩
instance : Flat Try.prog 88 [(3, (.int .i64)), (3, (.int .i64)), (3, (.int .i64))] := by
  refine ⟨by kernel_rfl, by kernel_rfl, by kernel_rfl, by kernel_rfl, ?_⟩
  simp only [List.forall_mem_cons]
  exact ⟨⟨Try.underlying3, rfl⟩, ⟨Try.underlying3, rfl⟩, ⟨Try.underlying3, rfl⟩, fun x hx => by cases hx⟩
instance : TyU Try.prog 89 (.struct (Try.prog.fieldsOf 89)) := ⟨by kernel_rfl⟩
instance : TyI Try.prog 89 3 24 (.agg #[(.int .i64 (0)), (.int .i64 (0)), (.int .i64 (0))]) := tyi (by kernel_rfl)
instance : Fld Try.prog 89 0 0 1 false := fldok Try.underlying89 rfl rfl (by kernel_rfl) (i := ((Try.prog.info? 3).getD default)) (by kernel_rfl) Try.underlying3 rfl
instance : Fld Try.prog 89 1 1 1 false := fldok Try.underlying89 rfl rfl (by kernel_rfl) (i := ((Try.prog.info? 3).getD default)) (by kernel_rfl) Try.underlying3 rfl
instance : Fld Try.prog 89 2 2 1 false := fldok Try.underlying89 rfl rfl (by kernel_rfl) (i := ((Try.prog.info? 3).getD default)) (by kernel_rfl) Try.underlying3 rfl
instance : Bld Try.prog 89 [(0, 1), (1, 1), (2, 1)] [(.int .i64 (0)), (.int .i64 (0)), (.int .i64 (0))] := by
  refine ⟨_, ((Try.prog.info? 89).getD default), _, Try.underlying89, by kernel_rfl, (by kernel_rfl : _ = some (.agg #[(.int .i64 (0)), (.int .i64 (0)), (.int .i64 (0))])), rfl, fun w => by kernel_rfl⟩
instance : Flat Try.prog 89 [(3, (.int .i64)), (3, (.int .i64)), (3, (.int .i64))] := by
  refine ⟨by kernel_rfl, by kernel_rfl, by kernel_rfl, by kernel_rfl, ?_⟩
  simp only [List.forall_mem_cons]
  exact ⟨⟨Try.underlying3, rfl⟩, ⟨Try.underlying3, rfl⟩, ⟨Try.underlying3, rfl⟩, fun x hx => by cases hx⟩
instance : TyU Try.prog 90 (.slice 93) := ⟨Try.underlying90⟩
instance : TyI Try.prog 90 1 24 (.slice none 0 0) := tyi (by kernel_rfl)
instance : TyU Try.prog 92 (.struct (Try.prog.fieldsOf 92)) := ⟨by kernel_rfl⟩
instance : TyI Try.prog 92 3 24 (.agg #[(.int .i64 (0)), (.int .i64 (0)), (.int .i64 (0))]) := tyi (by kernel_rfl)
instance : Fld Try.prog 92 0 0 1 false := fldok Try.underlying92 rfl rfl (by kernel_rfl) (i := ((Try.prog.info? 3).getD default)) (by kernel_rfl) Try.underlying3 rfl
instance : Fld Try.prog 92 1 1 1 false := fldok Try.underlying92 rfl rfl (by kernel_rfl) (i := ((Try.prog.info? 3).getD default)) (by kernel_rfl) Try.underlying3 rfl
instance : Fld Try.prog 92 2 2 1 false := fldok Try.underlying92 rfl rfl (by kernel_rfl) (i := ((Try.prog.info? 3).getD default)) (by kernel_rfl) Try.underlying3 rfl
instance : Bld Try.prog 92 [(0, 1), (1, 1), (2, 1)] [(.int .i64 (0)), (.int .i64 (0)), (.int .i64 (0))] := by
  refine ⟨_, ((Try.prog.info? 92).getD default), _, Try.underlying92, by kernel_rfl, (by kernel_rfl : _ = some (.agg #[(.int .i64 (0)), (.int .i64 (0)), (.int .i64 (0))])), rfl, fun w => by kernel_rfl⟩
instance : Flat Try.prog 92 [(3, (.int .i64)), (3, (.int .i64)), (3, (.int .i64))] := by
  refine ⟨by kernel_rfl, by kernel_rfl, by kernel_rfl, by kernel_rfl, ?_⟩
  simp only [List.forall_mem_cons]
  exact ⟨⟨Try.underlying3, rfl⟩, ⟨Try.underlying3, rfl⟩, ⟨Try.underlying3, rfl⟩, fun x hx => by cases hx⟩
instance : TyU Try.prog 93 (.struct (Try.prog.fieldsOf 93)) := ⟨by kernel_rfl⟩
instance : TyI Try.prog 93 3 24 (.agg #[(.int .i64 (0)), (.int .i64 (0)), (.int .i64 (0))]) := tyi (by kernel_rfl)
instance : Fld Try.prog 93 0 0 1 false := fldok Try.underlying93 rfl rfl (by kernel_rfl) (i := ((Try.prog.info? 3).getD default)) (by kernel_rfl) Try.underlying3 rfl
instance : Fld Try.prog 93 1 1 1 false := fldok Try.underlying93 rfl rfl (by kernel_rfl) (i := ((Try.prog.info? 3).getD default)) (by kernel_rfl) Try.underlying3 rfl
instance : Fld Try.prog 93 2 2 1 false := fldok Try.underlying93 rfl rfl (by kernel_rfl) (i := ((Try.prog.info? 3).getD default)) (by kernel_rfl) Try.underlying3 rfl
instance : Bld Try.prog 93 [(0, 1), (1, 1), (2, 1)] [(.int .i64 (0)), (.int .i64 (0)), (.int .i64 (0))] := by
  refine ⟨_, ((Try.prog.info? 93).getD default), _, Try.underlying93, by kernel_rfl, (by kernel_rfl : _ = some (.agg #[(.int .i64 (0)), (.int .i64 (0)), (.int .i64 (0))])), rfl, fun w => by kernel_rfl⟩
instance : Flat Try.prog 93 [(3, (.int .i64)), (3, (.int .i64)), (3, (.int .i64))] := by
  refine ⟨by kernel_rfl, by kernel_rfl, by kernel_rfl, by kernel_rfl, ?_⟩
  simp only [List.forall_mem_cons]
  exact ⟨⟨Try.underlying3, rfl⟩, ⟨Try.underlying3, rfl⟩, ⟨Try.underlying3, rfl⟩, fun x hx => by cases hx⟩
instance : TyU Try.prog 106 (.struct (Try.prog.fieldsOf 106)) := ⟨by kernel_rfl⟩
instance : TyI Try.prog 106 5 56 (.agg #[(.int .i64 (0)), (.string ByteArray.empty), (.string ByteArray.empty), (.bool false), (.int .i64 (0))]) := tyi (by kernel_rfl)
instance : Fld Try.prog 106 0 0 1 false := fldok Try.underlying106 rfl rfl (by kernel_rfl) (i := ((Try.prog.info? 3).getD default)) (by kernel_rfl) Try.underlying3 rfl
instance : Fld Try.prog 106 1 1 1 false := fldok Try.underlying106 rfl rfl (by kernel_rfl) (i := ((Try.prog.info? 9).getD default)) (by kernel_rfl) Try.underlying9 rfl
instance : Fld Try.prog 106 2 2 1 false := fldok Try.underlying106 rfl rfl (by kernel_rfl) (i := ((Try.prog.info? 9).getD default)) (by kernel_rfl) Try.underlying9 rfl
instance : Fld Try.prog 106 3 3 1 false := fldok Try.underlying106 rfl rfl (by kernel_rfl) (i := ((Try.prog.info? 4).getD default)) (by kernel_rfl) Try.underlying4 rfl
instance : Fld Try.prog 106 4 4 1 false := fldok Try.underlying106 rfl rfl (by kernel_rfl) (i := ((Try.prog.info? 3).getD default)) (by kernel_rfl) Try.underlying3 rfl
instance : Bld Try.prog 106 [(0, 1), (1, 1), (2, 1), (3, 1), (4, 1)] [(.int .i64 (0)), (.string ByteArray.empty), (.string ByteArray.empty), (.bool false), (.int .i64 (0))] := by
  refine ⟨_, ((Try.prog.info? 106).getD default), _, Try.underlying106, by kernel_rfl, (by kernel_rfl : _ = some (.agg #[(.int .i64 (0)), (.string ByteArray.empty), (.string ByteArray.empty), (.bool false), (.int .i64 (0))])), rfl, fun w => by kernel_rfl⟩
instance : Flat Try.prog 106 [(3, (.int .i64)), (9, .string), (9, .string), (4, .bool), (3, (.int .i64))] := by
  refine ⟨by kernel_rfl, by kernel_rfl, by kernel_rfl, by kernel_rfl, ?_⟩
  simp only [List.forall_mem_cons]
  exact ⟨⟨Try.underlying3, rfl⟩, ⟨Try.underlying9, rfl⟩, ⟨Try.underlying9, rfl⟩, ⟨Try.underlying4, rfl⟩, ⟨Try.underlying3, rfl⟩, fun x hx => by cases hx⟩
instance : TyU Try.prog 107 (.struct (Try.prog.fieldsOf 107)) := ⟨by kernel_rfl⟩
instance : TyI Try.prog 107 5 56 (.agg #[(.int .i64 (0)), (.string ByteArray.empty), (.string ByteArray.empty), (.bool false), (.int .i64 (0))]) := tyi (by kernel_rfl)
instance : Fld Try.prog 107 0 0 1 false := fldok Try.underlying107 rfl rfl (by kernel_rfl) (i := ((Try.prog.info? 3).getD default)) (by kernel_rfl) Try.underlying3 rfl
instance : Fld Try.prog 107 1 1 1 false := fldok Try.underlying107 rfl rfl (by kernel_rfl) (i := ((Try.prog.info? 9).getD default)) (by kernel_rfl) Try.underlying9 rfl
instance : Fld Try.prog 107 2 2 1 false := fldok Try.underlying107 rfl rfl (by kernel_rfl) (i := ((Try.prog.info? 9).getD default)) (by kernel_rfl) Try.underlying9 rfl
instance : Fld Try.prog 107 3 3 1 false := fldok Try.underlying107 rfl rfl (by kernel_rfl) (i := ((Try.prog.info? 4).getD default)) (by kernel_rfl) Try.underlying4 rfl
instance : Fld Try.prog 107 4 4 1 false := fldok Try.underlying107 rfl rfl (by kernel_rfl) (i := ((Try.prog.info? 3).getD default)) (by kernel_rfl) Try.underlying3 rfl
instance : Bld Try.prog 107 [(0, 1), (1, 1), (2, 1), (3, 1), (4, 1)] [(.int .i64 (0)), (.string ByteArray.empty), (.string ByteArray.empty), (.bool false), (.int .i64 (0))] := by
  refine ⟨_, ((Try.prog.info? 107).getD default), _, Try.underlying107, by kernel_rfl, (by kernel_rfl : _ = some (.agg #[(.int .i64 (0)), (.string ByteArray.empty), (.string ByteArray.empty), (.bool false), (.int .i64 (0))])), rfl, fun w => by kernel_rfl⟩
instance : Flat Try.prog 107 [(3, (.int .i64)), (9, .string), (9, .string), (4, .bool), (3, (.int .i64))] := by
  refine ⟨by kernel_rfl, by kernel_rfl, by kernel_rfl, by kernel_rfl, ?_⟩
  simp only [List.forall_mem_cons]
  exact ⟨⟨Try.underlying3, rfl⟩, ⟨Try.underlying9, rfl⟩, ⟨Try.underlying9, rfl⟩, ⟨Try.underlying4, rfl⟩, ⟨Try.underlying3, rfl⟩, fun x hx => by cases hx⟩
instance : TyU Try.prog 115 (.pointer 41) := ⟨Try.underlying115⟩
instance : TyI Try.prog 115 1 8 (.pointer none) := tyi (by kernel_rfl)
instance : TyU Try.prog 120 (.slice 41) := ⟨Try.underlying120⟩
instance : TyI Try.prog 120 1 24 (.slice none 0 0) := tyi (by kernel_rfl)
instance : TyU Try.prog 129 (.slice 5) := ⟨Try.underlying129⟩
instance : TyI Try.prog 129 1 24 (.slice none 0 0) := tyi (by kernel_rfl)
instance : TyU Try.prog 139 (.slice 102) := ⟨Try.underlying139⟩
instance : TyI Try.prog 139 1 24 (.slice none 0 0) := tyi (by kernel_rfl)
instance : TyU Try.prog 140 (.int .u64) := ⟨Try.underlying140⟩
instance : TyI Try.prog 140 1 8 (.int .u64 (0)) := tyi (by kernel_rfl)
instance : TyU Try.prog 159 (.int .u64) := ⟨Try.underlying159⟩
instance : TyI Try.prog 159 1 8 (.int .u64 (0)) := tyi (by kernel_rfl)
instance : TyU Try.prog 161 (.array 7 3) := ⟨Try.underlying161⟩
instance : TyI Try.prog 161 7 56 (.agg #[(.int .i64 (0)), (.int .i64 (0)), (.int .i64 (0)), (.int .i64 (0)), (.int .i64 (0)), (.int .i64 (0)), (.int .i64 (0))]) := tyi (by kernel_rfl)
instance : TyU Try.prog 166 (.int .u32) := ⟨Try.underlying166⟩
instance : TyI Try.prog 166 1 4 (.int .u32 (0)) := tyi (by kernel_rfl)
instance : TyU Try.prog 173 (.array 16 166) := ⟨Try.underlying173⟩
instance : TyI Try.prog 173 16 64 (.agg #[(.int .u32 (0)), (.int .u32 (0)), (.int .u32 (0)), (.int .u32 (0)), (.int .u32 (0)), (.int .u32 (0)), (.int .u32 (0)), (.int .u32 (0)), (.int .u32 (0)), (.int .u32 (0)), (.int .u32 (0)), (.int .u32 (0)), (.int .u32 (0)), (.int .u32 (0)), (.int .u32 (0)), (.int .u32 (0))]) := tyi (by kernel_rfl)
instance : TyU Try.prog 177 (.array 0 16) := ⟨Try.underlying177⟩
instance : TyI Try.prog 177 0 0 (.agg #[]) := tyi (by kernel_rfl)
instance : TyU Try.prog 181 (.int .u8) := ⟨Try.underlying181⟩
instance : TyI Try.prog 181 1 1 (.int .u8 (0)) := tyi (by kernel_rfl)
instance : TyU Try.prog 182 (.int .u8) := ⟨Try.underlying182⟩
instance : TyI Try.prog 182 1 1 (.int .u8 (0)) := tyi (by kernel_rfl)
instance : TyU Try.prog 184 (.pointer 5) := ⟨Try.underlying184⟩
instance : TyI Try.prog 184 1 8 (.pointer none) := tyi (by kernel_rfl)
instance : TyU Try.prog 185 (.int .i32) := ⟨Try.underlying185⟩
instance : TyI Try.prog 185 1 4 (.int .i32 (0)) := tyi (by kernel_rfl)
instance : TyU Try.prog 186 (.int .i32) := ⟨Try.underlying186⟩
instance : TyI Try.prog 186 1 4 (.int .i32 (0)) := tyi (by kernel_rfl)
instance : TyU Try.prog 187 (.struct (Try.prog.fieldsOf 187)) := ⟨by kernel_rfl⟩
instance : TyI Try.prog 187 11 48 (.agg #[(.int .u64 (0)), (.int .u64 (0)), (.int .u32 (0)), (.int .u8 (0)), (.int .u8 (0)), (.int .u8 (0)), (.int .u8 (0)), .nilFunc, (.pointer none), (.int .i32 (0)), (.int .i32 (0))]) := tyi (by kernel_rfl)
instance : Fld Try.prog 187 0 0 1 false := fldok Try.underlying187 rfl rfl (by kernel_rfl) (i := ((Try.prog.info? 12).getD default)) (by kernel_rfl) Try.underlying12 rfl
instance : Fld Try.prog 187 1 1 1 false := fldok Try.underlying187 rfl rfl (by kernel_rfl) (i := ((Try.prog.info? 12).getD default)) (by kernel_rfl) Try.underlying12 rfl
instance : Fld Try.prog 187 2 2 1 false := fldok Try.underlying187 rfl rfl (by kernel_rfl) (i := ((Try.prog.info? 166).getD default)) (by kernel_rfl) Try.underlying166 rfl
instance : Fld Try.prog 187 3 3 1 false := fldok Try.underlying187 rfl rfl (by kernel_rfl) (i := ((Try.prog.info? 181).getD default)) (by kernel_rfl) Try.underlying181 rfl
instance : Fld Try.prog 187 4 4 1 false := fldok Try.underlying187 rfl rfl (by kernel_rfl) (i := ((Try.prog.info? 5).getD default)) (by kernel_rfl) Try.underlying5 rfl
instance : Fld Try.prog 187 5 5 1 false := fldok Try.underlying187 rfl rfl (by kernel_rfl) (i := ((Try.prog.info? 5).getD default)) (by kernel_rfl) Try.underlying5 rfl
instance : Fld Try.prog 187 6 6 1 false := fldok Try.underlying187 rfl rfl (by kernel_rfl) (i := ((Try.prog.info? 182).getD default)) (by kernel_rfl) Try.underlying182 rfl
instance : Fld Try.prog 187 8 8 1 false := fldok Try.underlying187 rfl rfl (by kernel_rfl) (i := ((Try.prog.info? 184).getD default)) (by kernel_rfl) Try.underlying184 rfl
instance : Fld Try.prog 187 9 9 1 false := fldok Try.underlying187 rfl rfl (by kernel_rfl) (i := ((Try.prog.info? 185).getD default)) (by kernel_rfl) Try.underlying185 rfl
instance : Fld Try.prog 187 10 10 1 false := fldok Try.underlying187 rfl rfl (by kernel_rfl) (i := ((Try.prog.info? 186).getD default)) (by kernel_rfl) Try.underlying186 rfl
instance : TyU Try.prog 188 (.struct (Try.prog.fieldsOf 188)) := ⟨by kernel_rfl⟩
instance : TyI Try.prog 188 11 48 (.agg #[(.int .u64 (0)), (.int .u64 (0)), (.int .u32 (0)), (.int .u8 (0)), (.int .u8 (0)), (.int .u8 (0)), (.int .u8 (0)), .nilFunc, (.pointer none), (.int .i32 (0)), (.int .i32 (0))]) := tyi (by kernel_rfl)
instance : Fld Try.prog 188 0 0 1 false := fldok Try.underlying188 rfl rfl (by kernel_rfl) (i := ((Try.prog.info? 12).getD default)) (by kernel_rfl) Try.underlying12 rfl
instance : Fld Try.prog 188 1 1 1 false := fldok Try.underlying188 rfl rfl (by kernel_rfl) (i := ((Try.prog.info? 12).getD default)) (by kernel_rfl) Try.underlying12 rfl
instance : Fld Try.prog 188 2 2 1 false := fldok Try.underlying188 rfl rfl (by kernel_rfl) (i := ((Try.prog.info? 166).getD default)) (by kernel_rfl) Try.underlying166 rfl
instance : Fld Try.prog 188 3 3 1 false := fldok Try.underlying188 rfl rfl (by kernel_rfl) (i := ((Try.prog.info? 181).getD default)) (by kernel_rfl) Try.underlying181 rfl
instance : Fld Try.prog 188 4 4 1 false := fldok Try.underlying188 rfl rfl (by kernel_rfl) (i := ((Try.prog.info? 5).getD default)) (by kernel_rfl) Try.underlying5 rfl
instance : Fld Try.prog 188 5 5 1 false := fldok Try.underlying188 rfl rfl (by kernel_rfl) (i := ((Try.prog.info? 5).getD default)) (by kernel_rfl) Try.underlying5 rfl
instance : Fld Try.prog 188 6 6 1 false := fldok Try.underlying188 rfl rfl (by kernel_rfl) (i := ((Try.prog.info? 182).getD default)) (by kernel_rfl) Try.underlying182 rfl
instance : Fld Try.prog 188 8 8 1 false := fldok Try.underlying188 rfl rfl (by kernel_rfl) (i := ((Try.prog.info? 184).getD default)) (by kernel_rfl) Try.underlying184 rfl
instance : Fld Try.prog 188 9 9 1 false := fldok Try.underlying188 rfl rfl (by kernel_rfl) (i := ((Try.prog.info? 185).getD default)) (by kernel_rfl) Try.underlying185 rfl
instance : Fld Try.prog 188 10 10 1 false := fldok Try.underlying188 rfl rfl (by kernel_rfl) (i := ((Try.prog.info? 186).getD default)) (by kernel_rfl) Try.underlying186 rfl
instance : FnOk Try.prog 3 := fnok (by kernel_rfl)
instance : FnOk Try.prog 4 := fnok (by kernel_rfl)
instance : FnOk Try.prog 5 := fnok (by kernel_rfl)
instance : FnOk Try.prog 6 := fnok (by kernel_rfl)
instance : FnOk Try.prog 7 := fnok (by kernel_rfl)
instance : FnOk Try.prog 8 := fnok (by kernel_rfl)
instance : FnOk Try.prog 9 := fnok (by kernel_rfl)
instance : FnOk Try.prog 10 := fnok (by kernel_rfl)
instance : FnOk Try.prog 11 := fnok (by kernel_rfl)
instance : FnOk Try.prog 12 := fnok (by kernel_rfl)
instance : FnOk Try.prog 13 := fnok (by kernel_rfl)
instance : FnOk Try.prog 14 := fnok (by kernel_rfl)
instance : FnOk Try.prog 15 := fnok (by kernel_rfl)
instance : FnOk Try.prog 16 := fnok (by kernel_rfl)
instance : FnOk Try.prog 17 := fnok (by kernel_rfl)
instance : FnOk Try.prog 18 := fnok (by kernel_rfl)
instance : FnOk Try.prog 19 := fnok (by kernel_rfl)
instance : FnOk Try.prog 20 := fnok (by kernel_rfl)
instance : FnOk Try.prog 21 := fnok (by kernel_rfl)
instance : FnOk Try.prog 22 := fnok (by kernel_rfl)
instance : FnOk Try.prog 23 := fnok (by kernel_rfl)
instance : FnOk Try.prog 24 := fnok (by kernel_rfl)
instance : FnOk Try.prog 25 := fnok (by kernel_rfl)
instance : FnOk Try.prog 26 := fnok (by kernel_rfl)
instance : FnOk Try.prog 27 := fnok (by kernel_rfl)
instance : FnOk Try.prog 28 := fnok (by kernel_rfl)
instance : FnOk Try.prog 29 := fnok (by kernel_rfl)
instance : FnOk Try.prog 30 := fnok (by kernel_rfl)
instance : FnOk Try.prog 31 := fnok (by kernel_rfl)
instance : FnOk Try.prog 32 := fnok (by kernel_rfl)
instance : FnOk Try.prog 33 := fnok (by kernel_rfl)
instance : FnOk Try.prog 34 := fnok (by kernel_rfl)
instance : FnOk Try.prog 35 := fnok (by kernel_rfl)
instance : FnOk Try.prog 36 := fnok (by kernel_rfl)
instance : FnOk Try.prog 37 := fnok (by kernel_rfl)
instance : FnOk Try.prog 38 := fnok (by kernel_rfl)
instance : FnOk Try.prog 39 := fnok (by kernel_rfl)
instance : FnOk Try.prog 40 := fnok (by kernel_rfl)
instance : FnOk Try.prog 41 := fnok (by kernel_rfl)
instance : FnOk Try.prog 42 := fnok (by kernel_rfl)
instance : FnOk Try.prog 43 := fnok (by kernel_rfl)
instance : FnOk Try.prog 44 := fnok (by kernel_rfl)
instance : FnOk Try.prog 45 := fnok (by kernel_rfl)
instance : FnOk Try.prog 46 := fnok (by kernel_rfl)
instance : FnOk Try.prog 47 := fnok (by kernel_rfl)
instance : FnOk Try.prog 48 := fnok (by kernel_rfl)
instance : FnOk Try.prog 49 := fnok (by kernel_rfl)
instance : FnOk Try.prog 50 := fnok (by kernel_rfl)
instance : FnOk Try.prog 51 := fnok (by kernel_rfl)
instance : FnOk Try.prog 52 := fnok (by kernel_rfl)
instance : FnOk Try.prog 53 := fnok (by kernel_rfl)
instance : FnOk Try.prog 54 := fnok (by kernel_rfl)
instance : FnOk Try.prog 55 := fnok (by kernel_rfl)
instance : FnOk Try.prog 56 := fnok (by kernel_rfl)
instance : FnOk Try.prog 57 := fnok (by kernel_rfl)
instance : FnOk Try.prog 58 := fnok (by kernel_rfl)
instance : FnOk Try.prog 59 := fnok (by kernel_rfl)
instance : FnOk Try.prog 60 := fnok (by kernel_rfl)
instance : FnOk Try.prog 61 := fnok (by kernel_rfl)
instance : FnOk Try.prog 62 := fnok (by kernel_rfl)
instance : FnOk Try.prog 63 := fnok (by kernel_rfl)
instance : FnOk Try.prog 64 := fnok (by kernel_rfl)
instance : FnOk Try.prog 65 := fnok (by kernel_rfl)
instance : FnOk Try.prog 66 := fnok (by kernel_rfl)
instance : FnOk Try.prog 67 := fnok (by kernel_rfl)
instance : FnOk Try.prog 68 := fnok (by kernel_rfl)
instance : FnOk Try.prog 69 := fnok (by kernel_rfl)
instance : FnOk Try.prog 70 := fnok (by kernel_rfl)
instance : FnOk Try.prog 71 := fnok (by kernel_rfl)
instance : FnOk Try.prog 72 := fnok (by kernel_rfl)
instance : FnOk Try.prog 73 := fnok (by kernel_rfl)
instance : FnOk Try.prog 74 := fnok (by kernel_rfl)
instance : FnOk Try.prog 75 := fnok (by kernel_rfl)
instance : FnOk Try.prog 76 := fnok (by kernel_rfl)
instance : FnOk Try.prog 77 := fnok (by kernel_rfl)
instance : FnOk Try.prog 78 := fnok (by kernel_rfl)
instance : FnOk Try.prog 79 := fnok (by kernel_rfl)
instance : FnOk Try.prog 80 := fnok (by kernel_rfl)
instance : FnOk Try.prog 81 := fnok (by kernel_rfl)
instance : FnOk Try.prog 82 := fnok (by kernel_rfl)
instance : FnOk Try.prog 83 := fnok (by kernel_rfl)
instance : FnOk Try.prog 84 := fnok (by kernel_rfl)
instance : FnOk Try.prog 85 := fnok (by kernel_rfl)
instance : FnOk Try.prog 86 := fnok (by kernel_rfl)
instance : FnOk Try.prog 87 := fnok (by kernel_rfl)
instance : FnOk Try.prog 88 := fnok (by kernel_rfl)
instance : FnOk Try.prog 89 := fnok (by kernel_rfl)
instance : FnOk Try.prog 90 := fnok (by kernel_rfl)
instance : FnOk Try.prog 91 := fnok (by kernel_rfl)
instance : FnOk Try.prog 92 := fnok (by kernel_rfl)
instance : FnOk Try.prog 93 := fnok (by kernel_rfl)
instance : FnOk Try.prog 94 := fnok (by kernel_rfl)
instance : FnOk Try.prog 95 := fnok (by kernel_rfl)
instance : FnOk Try.prog 96 := fnok (by kernel_rfl)
instance : FnOk Try.prog 97 := fnok (by kernel_rfl)
instance : FnOk Try.prog 98 := fnok (by kernel_rfl)
instance : FnOk Try.prog 99 := fnok (by kernel_rfl)
instance : FnOk Try.prog 100 := fnok (by kernel_rfl)
instance : FnOk Try.prog 101 := fnok (by kernel_rfl)
instance : FnOk Try.prog 102 := fnok (by kernel_rfl)
instance : FnOk Try.prog 103 := fnok (by kernel_rfl)
instance : FnOk Try.prog 104 := fnok (by kernel_rfl)
instance : FnOk Try.prog 105 := fnok (by kernel_rfl)
instance : FnOk Try.prog 106 := fnok (by kernel_rfl)
instance : FnOk Try.prog 107 := fnok (by kernel_rfl)
instance : FnOk Try.prog 108 := fnok (by kernel_rfl)
instance : FnOk Try.prog 109 := fnok (by kernel_rfl)
instance : FnOk Try.prog 110 := fnok (by kernel_rfl)
instance : FnOk Try.prog 111 := fnok (by kernel_rfl)
instance : FnOk Try.prog 113 := fnok (by kernel_rfl)
instance : FnOk Try.prog 114 := fnok (by kernel_rfl)
instance : FnOk Try.prog 115 := fnok (by kernel_rfl)
instance : FnOk Try.prog 116 := fnok (by kernel_rfl)
instance : FnOk Try.prog 117 := fnok (by kernel_rfl)
instance : FnOk Try.prog 118 := fnok (by kernel_rfl)
instance : FnOk Try.prog 119 := fnok (by kernel_rfl)
instance : FnOk Try.prog 120 := fnok (by kernel_rfl)
instance : FnOk Try.prog 121 := fnok (by kernel_rfl)
instance : FnOk Try.prog 122 := fnok (by kernel_rfl)
instance : FnOk Try.prog 123 := fnok (by kernel_rfl)
instance : FnOk Try.prog 124 := fnok (by kernel_rfl)
instance : FnOk Try.prog 125 := fnok (by kernel_rfl)
instance : FnOk Try.prog 126 := fnok (by kernel_rfl)
instance : FnOk Try.prog 127 := fnok (by kernel_rfl)
instance : FnOk Try.prog 128 := fnok (by kernel_rfl)
instance : FnOk Try.prog 129 := fnok (by kernel_rfl)
instance : FnOk Try.prog 130 := fnok (by kernel_rfl)
instance : FnOk Try.prog 131 := fnok (by kernel_rfl)
instance : FnOk Try.prog 132 := fnok (by kernel_rfl)
instance : FnOk Try.prog 133 := fnok (by kernel_rfl)
instance : FnOk Try.prog 134 := fnok (by kernel_rfl)
instance : FnOk Try.prog 135 := fnok (by kernel_rfl)
instance : FnOk Try.prog 136 := fnok (by kernel_rfl)
instance : FnOk Try.prog 137 := fnok (by kernel_rfl)
instance : FnOk Try.prog 138 := fnok (by kernel_rfl)
instance : FnOk Try.prog 139 := fnok (by kernel_rfl)
instance : FnOk Try.prog 140 := fnok (by kernel_rfl)
instance : FnOk Try.prog 141 := fnok (by kernel_rfl)
instance : FnOk Try.prog 142 := fnok (by kernel_rfl)
instance : FnOk Try.prog 143 := fnok (by kernel_rfl)
instance : FnOk Try.prog 144 := fnok (by kernel_rfl)
instance : FnOk Try.prog 145 := fnok (by kernel_rfl)
instance : FnOk Try.prog 146 := fnok (by kernel_rfl)
instance : FnOk Try.prog 147 := fnok (by kernel_rfl)
instance : FnOk Try.prog 148 := fnok (by kernel_rfl)
instance : FnOk Try.prog 149 := fnok (by kernel_rfl)
instance : FnOk Try.prog 150 := fnok (by kernel_rfl)
instance : FnOk Try.prog 151 := fnok (by kernel_rfl)
instance : FnOk Try.prog 152 := fnok (by kernel_rfl)
instance : FnOk Try.prog 153 := fnok (by kernel_rfl)
instance : FnOk Try.prog 154 := fnok (by kernel_rfl)
instance : FnOk Try.prog 155 := fnok (by kernel_rfl)
instance : FnOk Try.prog 156 := fnok (by kernel_rfl)
instance : FnOk Try.prog 158 := fnok (by kernel_rfl)
instance : FnOk Try.prog 159 := fnok (by kernel_rfl)
instance : FnOk Try.prog 160 := fnok (by kernel_rfl)
instance : FnOk Try.prog 161 := fnok (by kernel_rfl)
instance : FnOk Try.prog 162 := fnok (by kernel_rfl)
end Go.Wm

/-
  More laws of single operations for this seat's calculus: arithmetic, lengths, places, loads, slices, equality of flat structs, new blocks, stores. Conditions: the facts on types that the program's tables give.
-/
import Derived.Test.YtapfmndcjcdcjaaOps
set_option linter.all false
namespace Go.Wm
open Go.RowKit

def aggD : TypeDesc → Bool
  | .struct _ => true
  | .array _ _ => true
  | _ => false
/-- A struct type's field: where its cells lie, how many, and whether it is a struct or an array itself. -/
class Fld (P : Program) (t : TypeId) (f : Nat) (off : outParam Nat) (sz : outParam Nat) (ag : outParam Bool) : Prop where
  eq : ∃ fs fd d i, P.underlying t = some (.struct fs) ∧ fs[f]? = some fd ∧ fd.offset = off ∧ P.info? fd.type = some i ∧ i.size = sz ∧ P.underlying fd.type = some d ∧ aggD d = ag
/-- A struct type's parts and zero, for literals. -/
class Bld (P : Program) (t : TypeId) (places : outParam (List (Nat × Nat))) (zero : outParam (List Value)) : Prop where
  eq : ∃ fs i z, P.underlying t = some (.struct fs) ∧ P.info? t = some i ∧ i.zero = some z ∧ z.cells = zero.toArray ∧
    ∀ w : World, (fs.mapM fun f => (do pure (f.offset, ← sizeOf f.type) : Sem (Nat × Nat))).run P w = .ok places.toArray w
/-- A struct type whose fields are all plain, of these kinds. -/
class Flat (P : Program) (t : TypeId) (ds : outParam (List (TypeId × TypeDesc))) : Prop where
  eq : P.underlying t = some (.struct (P.fieldsOf t)) ∧ P.stoodInHeld t = false ∧ P.eqGuardType P.depth t = false ∧
    ((P.fieldsOf t).toList.map fun f => (f.name == "_", f.type, f.offset)) = (List.range ds.length).zipWith (fun i d => (false, d.1, i)) ds ∧ ∀ d ∈ ds, P.underlying d.1 = some d.2 ∧ aggD d.2 = false

/-- What is known of a row of cells. -/
def Cells (k : PH) (b off : Nat) (vs : List Value) : Prop := ∃ c et fr, k b = some (.cells c et fr) ∧ ∀ i v, vs[i]? = some v → c[off + i]? = some v
theorem Cells.le {h k : PH} (hl : Le h k) {b off : Nat} {vs : List Value} (hc : Cells h b off vs) : Cells k b off vs := by
  obtain ⟨c, et, fr, h1, h2⟩ := hc
  exact ⟨c, et, fr, hl _ _ h1, h2⟩
theorem Cells.cell {k : PH} {w : World} (hs : Sub k w) {b off : Nat} {vs : List Value} (hc : Cells k b off vs) {i : Nat} {v : Value} (hv : vs[i]? = some v) : w.cell? ⟨b, off + i, none⟩ = some v := by
  obtain ⟨c, et, fr, h1, h2⟩ := hc
  simp only [World.cell?, hs b _ h1, Option.isSome_none, Bool.false_eq_true, if_false]
  exact h2 i v hv
theorem addr_add (b off n : Nat) : (⟨b, off, none⟩ : Addr).add n = ⟨b, off + n, none⟩ := by
  unfold Addr.add; split <;> simp_all
theorem Cells.sub {k : PH} {b off : Nat} {vs us : List Value} (h : Cells k b off vs) (j : Nat) (hu : ∀ i v, us[i]? = some v → vs[j + i]? = some v) : Cells k b (off + j) us := by
  obtain ⟨c, et, fr, h1, h2⟩ := h
  refine ⟨c, et, fr, h1, fun i v hv => ?_⟩
  rw [Nat.add_assoc]
  exact h2 _ v (hu i v hv)

section
variable {P : Program} {n : Nat} {ops : Array Oper} {o : Oper} {e : Env} {k : PH}

theorem run_isAgg {t : TypeId} {d : TypeDesc} (h : P.underlying t = some d) (w : World) : (isAgg t).run P w = .ok (aggD d) w := by
  unfold isAgg
  simp only [Sem.run_bind, run_underlying h, Result.andThen_ok]
  cases d <;> rfl
theorem run_size {t : TypeId} {i : TypeInfo} (h : P.info? t = some i) (w : World) : (sizeOf t).run P w = .ok i.size w := by
  simp [sizeOf, typeInfo, h]

/-! ### whole numbers -/
theorem d_add {t t' : TypeId} {x y : Operand} {a b : Int} (hop : o.op = .binOp .add t x y t') (hx : opv e x = some (.int .i64 a)) (hy : opv e y = some (.int .i64 b)) (h1 : -9223372036854775808 ≤ a + b) (h2 : a + b ≤ 9223372036854775807) : Det P e k o (.int .i64 (a + b)) := by
  intro ev w hev _
  rw [hop] at hev
  have g : IntKind.i64.wrap (a + b) = a + b := by rw [IntKind.wrap_i64]; omega
  simp [execOp, hop, hev x (by simp [Op.operands]) _ hx, hev y (by simp [Op.operands]) _ hy, eqGuard, binOp, Op.intArith, g]
theorem d_sub {t t' : TypeId} {x y : Operand} {a b : Int} (hop : o.op = .binOp .sub t x y t') (hx : opv e x = some (.int .i64 a)) (hy : opv e y = some (.int .i64 b)) (h1 : -9223372036854775808 ≤ a - b) (h2 : a - b ≤ 9223372036854775807) : Det P e k o (.int .i64 (a - b)) := by
  intro ev w hev _
  rw [hop] at hev
  have g : IntKind.i64.wrap (a - b) = a - b := by rw [IntKind.wrap_i64]; omega
  simp [execOp, hop, hev x (by simp [Op.operands]) _ hx, hev y (by simp [Op.operands]) _ hy, eqGuard, binOp, Op.intArith, g]
theorem d_mul {t t' : TypeId} {x y : Operand} {a b : Int} (hop : o.op = .binOp .mul t x y t') (hx : opv e x = some (.int .i64 a)) (hy : opv e y = some (.int .i64 b)) (h1 : -9223372036854775808 ≤ a * b) (h2 : a * b ≤ 9223372036854775807) : Det P e k o (.int .i64 (a * b)) := by
  intro ev w hev _
  rw [hop] at hev
  have g : IntKind.i64.wrap (a * b) = a * b := by rw [IntKind.wrap_i64]; generalize a * b = c at *; omega
  simp [execOp, hop, hev x (by simp [Op.operands]) _ hx, hev y (by simp [Op.operands]) _ hy, eqGuard, binOp, Op.intArith, g]
theorem d_eqb {t t' : TypeId} {x y : Operand} {a b : Bool} [h : TyU P t .bool] (hop : o.op = .binOp .eql t x y t') (hx : opv e x = some (.bool a)) (hy : opv e y = some (.bool b)) : Det P e k o (.bool (a == b)) := by
  intro ev w hev _
  rw [hop] at hev
  simp [execOp, hop, hev x (by simp [Op.operands]) _ hx, hev y (by simp [Op.operands]) _ hy, eqGuard, run_eql_bool _ t a b h.eq]
theorem d_neb {t t' : TypeId} {x y : Operand} {a b : Bool} [h : TyU P t .bool] (hop : o.op = .binOp .neq t x y t') (hx : opv e x = some (.bool a)) (hy : opv e y = some (.bool b)) : Det P e k o (.bool (!(a == b))) := by
  intro ev w hev _
  rw [hop] at hev
  simp [execOp, hop, hev x (by simp [Op.operands]) _ hx, hev y (by simp [Op.operands]) _ hy, eqGuard, run_neq_bool _ t a b h.eq]

/-! ### lengths -/
theorem d_len {t et : TypeId} {x : Operand} {a : Option Addr} {m c : Nat} [h : TyU P t (.slice et)] (hop : o.op = .call { callee := .builtin .len, args := #[x], argTypes := #[t] }) (hx : opv e x = some (.slice a m c)) : Det P e k o (.int .i64 (m : Int)) := by
  intro ev w hev _
  rw [hop] at hev
  have h1 := hev x (by simp [Op.operands, Call.operands]) _ hx
  simp [execOp, hop, resolve, invoke, builtin, h1, Builtin.len_, run_underlying h.eq, goInt]
theorem d_len_str {t : TypeId} {x : Operand} {s : ByteArray} [h : TyU P t .string] (hop : o.op = .call { callee := .builtin .len, args := #[x], argTypes := #[t] }) (hx : opv e x = some (.string s)) : Det P e k o (.int .i64 (s.size : Int)) := by
  intro ev w hev _
  rw [hop] at hev
  have h1 := hev x (by simp [Op.operands, Call.operands]) _ hx
  simp [execOp, hop, resolve, invoke, builtin, h1, Builtin.len_, run_underlying h.eq, goInt]
theorem d_len_map {t kt et : TypeId} {x : Operand} {r : Nat} {es : Array MapEntry} {cl : Nat} [h : TyU P t (.map kt et)] (hop : o.op = .call { callee := .builtin .len, args := #[x], argTypes := #[t] }) (hx : opv e x = some (.map (some r)))
    (hk : k r = some (.map es cl)) : Det P e k o (.int .i64 (es.size : Int)) := by
  intro ev w hev hs
  rw [hop] at hev
  have h1 := hev x (by simp [Op.operands, Call.operands]) _ hx
  have h2 := hs _ _ hk
  simp [execOp, hop, resolve, invoke, builtin, h1, Builtin.len_, run_underlying h.eq, goInt, run_getObj_map w r es cl h2]
theorem d_len_map_nil {t kt et : TypeId} {x : Operand} [h : TyU P t (.map kt et)] (hop : o.op = .call { callee := .builtin .len, args := #[x], argTypes := #[t] }) (hx : opv e x = some (.map none)) : Det P e k o (.int .i64 0) := by
  intro ev w hev hs
  rw [hop] at hev
  have h1 := hev x (by simp [Op.operands, Call.operands]) _ hx
  simp [execOp, hop, resolve, invoke, builtin, h1, Builtin.len_, run_underlying h.eq, goInt]

/-! ### places and loads -/
theorem d_idx {t et : TypeId} {x ix : Operand} {b off m c i sz bs : Nat} {z : Value} {kd : IntKind} [h : TyU P t (.slice et)] [hi : TyI P et sz bs z] (hop : o.op = .indexAddr t x ix) (hx : opv e x = some (.slice (some ⟨b, off, none⟩) m c))
    (hy : opv e ix = some (.int kd (i : Int))) (hlt : i < m) : Det P e k o (.pointer (some ⟨b, off + i * sz, none⟩)) := by
  intro ev w hev _
  rw [hop] at hev
  obtain ⟨inf, hi1, hi2, _⟩ := hi.eq
  have h3 : (i : Int) < (m : Int) := by omega
  simp [execOp, hop, hev x (by simp [Op.operands]) _ hx, hev ix (by simp [Op.operands]) _ hy, Instr.indexAt, asIntOf, run_underlying h.eq, h3, run_size hi1, hi2, addr_add, Nat.not_le.2 hlt, hlt]
theorem d_idx_str {t : TypeId} {x ix : Operand} {s : ByteArray} {i : Nat} {kd : IntKind} [h : TyU P t .string] (hop : o.op = .index t x ix) (hx : opv e x = some (.string s)) (hy : opv e ix = some (.int kd (i : Int))) (hlt : i < s.size) : Det P e k o (.int .u8 (s[i].toNat : Int)) := by
  intro ev w hev _
  rw [hop] at hev
  simp [execOp, hop, hev x (by simp [Op.operands]) _ hx, hev ix (by simp [Op.operands]) _ hy, Instr.index, asIntOf, run_underlying h.eq, getElem?_pos, hlt]
theorem d_faddr {t : TypeId} {f b off fo sz : Nat} {ag : Bool} {x : Operand} [h : Fld P t f fo sz ag] (hop : o.op = .fieldAddr t x f) (hx : opv e x = some (.pointer (some ⟨b, off, none⟩))) (hsz : Nat.beq sz 0 = false) : Det P e k o (.pointer (some ⟨b, off + fo, none⟩)) := by
  intro ev w hev _
  rw [hop] at hev
  obtain ⟨fs, fd, d, i, h1, h2, h3, h4, h5, _⟩ := h.eq
  have h6 : i.size ≠ 0 := by rw [h5]; intro h; rw [h] at hsz; cases hsz
  simp [execOp, hop, hev x (by simp [Op.operands]) _ hx, Instr.fieldAt, run_underlying h1, h2, Instr.sureAddr, fieldPlace, run_size h4, h6, h3, addr_add]
theorem d_field {t : TypeId} {f fo sz : Nat} {x : Operand} {cs : Array Value} {v : Value} [h : Fld P t f fo sz false] (hop : o.op = .field t x f) (hx : opv e x = some (.agg cs)) (hv : cs[fo]? = some v) : Det P e k o v := by
  intro ev w hev _
  rw [hop] at hev
  obtain ⟨fs, fd, d, i, h1, h2, h3, h4, h5, h6, h7⟩ := h.eq
  subst h3
  simp [execOp, hop, hev x (by simp [Op.operands]) _ hx, Instr.field, run_underlying h1, h2, asAgg, part, run_isAgg h6, h7, hv]
theorem d_field_agg {t : TypeId} {f fo sz : Nat} {x : Operand} {cs : Array Value} [h : Fld P t f fo sz true] (hop : o.op = .field t x f) (hx : opv e x = some (.agg cs)) : Det P e k o (.agg (cs.extract fo (fo + sz))) := by
  intro ev w hev _
  rw [hop] at hev
  obtain ⟨fs, fd, d, i, h1, h2, h3, h4, h5, h6, h7⟩ := h.eq
  subst h3
  simp [execOp, hop, hev x (by simp [Op.operands]) _ hx, Instr.field, run_underlying h1, h2, asAgg, part, run_isAgg h6, h7, run_size h4, h5]
theorem d_load {t : TypeId} {d : TypeDesc} {x : Operand} {b off : Nat} {v : Value} [h : TyU P t d] (hop : o.op = .load t x) (hx : opv e x = some (.pointer (some ⟨b, off, none⟩))) (hd : aggD d = false) (hc : Cells k b off [v]) : Det P e k o v := by
  intro ev w hev hs
  rw [hop] at hev
  have h1 := hc.cell hs (i := 0) (v := v) rfl
  simp only [Nat.add_zero] at h1
  simp [execOp, hop, hev x (by simp [Op.operands]) _ hx, Instr.loadAt, Instr.sureAddr, loadVar, run_isAgg h.eq, hd, h1]
theorem d_load_agg {t : TypeId} {d : TypeDesc} {x : Operand} {b off sz bs : Nat} {z : Value} {vs : List Value} [h : TyU P t d] [hi : TyI P t sz bs z] (hop : o.op = .load t x) (hx : opv e x = some (.pointer (some ⟨b, off, none⟩))) (hd : aggD d = true)
    (hl : vs.length = sz) (hc : Cells k b off vs) : Det P e k o (.agg vs.toArray) := by
  intro ev w hev hs
  rw [hop] at hev
  obtain ⟨inf, hi1, hi2, _⟩ := hi.eq
  have h1 := run_loadCells_list (P := P) w ⟨b, off, none⟩ vs (fun j v hv => by rw [addr_add]; exact hc.cell hs hv)
  rw [hl] at h1
  simp [execOp, hop, hev x (by simp [Op.operands]) _ hx, Instr.loadAt, Instr.sureAddr, loadVar, run_isAgg h.eq, hd, run_size hi1, hi2, h1]

/-! ### parts of slices and strings -/
def ob (d : Nat) : Option Nat → Nat
  | some x => x
  | none => d
def opi (e : Env) : Option Operand → Option (Option Nat) → Prop
  | none, some none => True
  | some x, some (some i) => ∃ kd, opv e x = some (.int kd (i : Int))
  | _, _ => False
theorem run_bounds {ev : Operand → Value} {b : Bool} {lo hi : Option Operand} {l h : Option Nat} (len cap : Nat) (w : World) (hlo : opi e lo (some l)) (hhi : opi e hi (some h)) (hev : ∀ x, (some x = lo ∨ some x = hi) → ∀ u, opv e x = some u → ev x = u)
    (h1 : ob 0 l ≤ ob len h) (h2 : ob len h ≤ cap) (h3 : len ≤ cap) : (Instr.sliceBounds b len cap (lo.map ev) (hi.map ev) none).run P w = .ok (ob 0 l, ob len h, cap) w := by
  have sb : ∀ (i y : Nat) (kd : IntKind) (cd : BoundsCode) (w : World), i ≤ y → (Instr.sliceBound (.int kd (i : Int)) y cd).run P w = .ok i w := by
    intro i y kd cd w hle
    have : (i : Int) ≤ (y : Int) := by omega
    simp [Instr.sliceBound, asIntOf, this]
  cases lo with
  | none =>
    cases l with
    | some i => exact hlo.elim
    | none =>
      cases hi with
      | none =>
        cases h with
        | some i => exact hhi.elim
        | none => simp [Instr.sliceBounds, ob]
      | some y =>
        cases h with
        | none => exact hhi.elim
        | some j =>
          obtain ⟨kd, hy⟩ := hhi
          simp only [ob] at h1 h2 ⊢
          simp [Instr.sliceBounds, hev y (.inr rfl) _ hy, sb j cap kd _ _ h2]
  | some x =>
    cases l with
    | none => exact hlo.elim
    | some i =>
      obtain ⟨kd', hx⟩ := hlo
      cases hi with
      | none =>
        cases h with
        | some i => exact hhi.elim
        | none =>
          simp only [ob] at h1 h2 ⊢
          simp [Instr.sliceBounds, hev x (.inl rfl) _ hx, sb i len kd' _ _ h1]
      | some y =>
        cases h with
        | none => exact hhi.elim
        | some j =>
          obtain ⟨kd, hy⟩ := hhi
          simp only [ob] at h1 h2 ⊢
          simp [Instr.sliceBounds, hev y (.inr rfl) _ hy, hev x (.inl rfl) _ hx, sb j cap kd _ _ h2, sb i j kd' _ _ h1]
theorem d_slice {t et : TypeId} {x : Operand} {lo hi : Option Operand} {l h : Option Nat} {b off m c sz bs : Nat} {z : Value} [ht : TyU P t (.slice et)] [hi' : TyI P et sz bs z] (hop : o.op = .slice t x lo hi none)
    (hx : opv e x = some (.slice (some ⟨b, off, none⟩) m c)) (hlo : opi e lo (some l)) (hhi : opi e hi (some h)) (h1 : ob 0 l ≤ ob m h) (h2 : ob m h ≤ c) (h3 : m ≤ c) :
    Det P e k o (.slice (some ⟨b, if c = ob 0 l then off else off + ob 0 l * sz, none⟩) (ob m h - ob 0 l) (c - ob 0 l)) := by
  intro ev w hev _
  rw [hop] at hev
  obtain ⟨inf, hi1, hi2, _⟩ := hi'.eq
  have g := run_bounds (P := P) (b := true) m c w hlo hhi (fun y hy u hu => hev y (by
    rcases hy with hy | hy <;> subst hy <;> simp [Op.operands]) u hu) h1 h2 h3
  simp [execOp, hop, hev x (by simp [Op.operands]) _ hx, Instr.sliceAt, Instr.slice, run_underlying ht.eq, g, run_size hi1, hi2, addr_add]
  split <;> rfl
theorem d_slice_nil {t et : TypeId} {x : Operand} {lo hi : Option Operand} {l h : Option Nat} {sz bs : Nat} {z : Value} [ht : TyU P t (.slice et)] [hi' : TyI P et sz bs z] (hop : o.op = .slice t x lo hi none)
    (hx : opv e x = some (.slice none 0 0)) (hlo : opi e lo (some l)) (hhi : opi e hi (some h)) (h1 : ob 0 l ≤ ob 0 h) (h2 : ob 0 h ≤ 0) :
    Det P e k o (.slice none 0 0) := by
  intro ev w hev _
  rw [hop] at hev
  obtain ⟨inf, hi1, hi2, _⟩ := hi'.eq
  have g := run_bounds (P := P) (b := true) 0 0 w hlo hhi (fun y hy u hu => hev y (by
    rcases hy with hy | hy <;> subst hy <;> simp [Op.operands]) u hu) h1 h2 (Nat.le_refl _)
  have e1 : ob 0 l = 0 := by omega
  have e2 : ob 0 h = 0 := by omega
  simp [execOp, hop, hev x (by simp [Op.operands]) _ hx, Instr.sliceAt, Instr.slice, run_underlying ht.eq, g, run_size hi1, hi2, e1, e2]
theorem d_slice_str {t : TypeId} {x : Operand} {lo hi : Option Operand} {l h : Option Nat} {s : ByteArray} [ht : TyU P t .string] (hop : o.op = .slice t x lo hi none)
    (hx : opv e x = some (.string s)) (hlo : opi e lo (some l)) (hhi : opi e hi (some h)) (h1 : ob 0 l ≤ ob s.size h) (h2 : ob s.size h ≤ s.size) :
    Det P e k o (.string (s.extract (ob 0 l) (ob s.size h))) := by
  intro ev w hev _
  rw [hop] at hev
  have g := run_bounds (P := P) (b := false) s.size s.size w hlo hhi (fun y hy u hu => hev y (by
    rcases hy with hy | hy <;> subst hy <;> simp [Op.operands]) u hu) h1 h2 (Nat.le_refl _)
  simp [execOp, hop, hev x (by simp [Op.operands]) _ hx, Instr.sliceAt, Instr.slice, run_underlying ht.eq, g]

/-! ### flat structs -/
def litEq : TypeDesc → Value → Value → Option Bool
  | .int _, .int .i64 a, .int .i64 b => some (decide (a = b))
  | .int _, .int .u32 a, .int .u32 b => some (decide (a = b))
  | .bool, .bool a, .bool b => some (a == b)
  | .string, .string a, .string b => some (decide (a = b))
  | _, _, _ => none
def eqFlat : List (TypeId × TypeDesc) → List Value → List Value → Option Bool
  | [], [], [] => some true
  | d :: ds, a :: as, b :: bs => match litEq d.2 a b with
    | some r => match eqFlat ds as bs with
      | some s => some (r && s)
      | none => none
    | none => none
  | _, _, _ => none
theorem run_litEq {t : TypeId} {d : TypeDesc} (h : P.underlying t = some d) {a b : Value} {r : Bool} (hr : litEq d a b = some r) (m : Nat) (w : World) : (Op.equalIn (m + 1) t a b).run P w = .ok r w := by
  unfold litEq at hr
  split at hr
  · cases hr; rw [run_equalIn_int w m t _ _ _ _ h]; rfl
  · cases hr; rw [run_equalIn_int w m t _ _ _ _ h]; rfl
  · cases hr; exact run_equalIn_bool' w m t _ _ h
  · cases hr; rw [run_equalIn_string w m t _ _ h, beq_toList]
  · cases hr
theorem run_eqFlat (m : Nat) (w : World) (xs ys : Array Value) : ∀ (ds : List (TypeId × TypeDesc)) (fs : List Field) (j : Nat) (as bs : List Value) (r : Bool), (fs.map fun f => (f.name == "_", f.type, f.offset)) = (List.range' j ds.length).zipWith (fun i d => (false, d.1, i)) ds →
    (∀ d ∈ ds, P.underlying d.1 = some d.2 ∧ aggD d.2 = false) → (∀ i v, as[i]? = some v → xs[j + i]? = some v) → (∀ i v, bs[i]? = some v → ys[j + i]? = some v) → eqFlat ds as bs = some r →
    (Op.eqFields (m + 1) xs ys fs).run P w = .ok r w
  | [], fs, j, as, bs, r, hf, _, _, _, hr => by
    have : fs = [] := by simpa using hf
    subst this
    cases as <;> cases bs <;> simp [eqFlat] at hr
    subst hr
    rfl
  | d :: ds, fs, j, as, bs, r, hf, hd, ha, hb, hr => by
    cases fs with
    | nil => simp [List.range'_succ] at hf
    | cons f fs =>
      simp only [List.length_cons, List.range'_succ, List.zipWith_cons_cons, List.map_cons, List.cons.injEq, Prod.mk.injEq] at hf
      obtain ⟨⟨h1, h2, h3⟩, h4⟩ := hf
      cases as with
      | nil => simp [eqFlat] at hr
      | cons a as =>
        cases bs with
        | nil => simp [eqFlat] at hr
        | cons b bs =>
          simp only [eqFlat] at hr
          split at hr
          · rename_i r1 hr1
            split at hr
            · rename_i r2 hr2
              cases hr
              have hdd := hd d (by simp)
              have ha0 := ha 0 a rfl
              have hb0 := hb 0 b rfl
              simp only [Nat.add_zero] at ha0 hb0
              have hne : f.name ≠ "_" := by simpa using h1
              have ih := run_eqFlat m w xs ys ds fs (j + 1) as bs r2 h4 (fun x hx => hd x (by simp [hx])) (fun i v hv => by have := ha (i + 1) v (by simpa using hv); rwa [show j + (i + 1) = j + 1 + i by omega] at this)
                (fun i v hv => by have := hb (i + 1) v (by simpa using hv); rwa [show j + (i + 1) = j + 1 + i by omega] at this) hr2
              rw [← h2] at hdd
              simp only [Op.eqFields, hne, ne_eq, not_false_eq_true, if_true, Sem.run_bind]
              simp only [part, Sem.run_bind, run_isAgg hdd.1, hdd.2, Result.andThen_ok, Bool.false_eq_true, if_false, h3, ha0, hb0, Sem.run_pure]
              rw [run_litEq hdd.1 hr1]
              cases r1
              · simp
              · simp [ih]
            · cases hr
          · cases hr
theorem d_eq_flat {t t' : TypeId} {ds : List (TypeId × TypeDesc)} {x y : Operand} {xs ys : Array Value} {r : Bool} [h : Flat P t ds] (hop : o.op = .binOp .eql t x y t') (hx : opv e x = some (.agg xs)) (hy : opv e y = some (.agg ys))
    (hr : eqFlat ds xs.toList ys.toList = some r) : Det P e k o (.bool r) := by
  intro ev w hev _
  rw [hop] at hev
  obtain ⟨h1, h2, h3, h4, h5⟩ := h.eq
  have g := run_eqFlat (P := P) 9998 w xs ys ds (P.fieldsOf t).toList 0 xs.toList ys.toList r (by rw [h4, List.range_eq_range']) h5 (fun i v hv => by simpa using hv) (fun i v hv => by simpa using hv) hr
  simp only [execOp, hop, hev x (by simp [Op.operands]) _ hx, hev y (by simp [Op.operands]) _ hy, Sem.run_bind, run_eqGuard_agg w .eql t x y xs ys h3, Result.andThen_ok, run_eql_struct, run_equalIn_struct w 9999 t xs ys h1 h2, g, Sem.run_pure]
theorem d_ne_flat {t t' : TypeId} {ds : List (TypeId × TypeDesc)} {x y : Operand} {xs ys : Array Value} {r : Bool} [h : Flat P t ds] (hop : o.op = .binOp .neq t x y t') (hx : opv e x = some (.agg xs)) (hy : opv e y = some (.agg ys))
    (hr : eqFlat ds xs.toList ys.toList = some r) : Det P e k o (.bool !r) := by
  intro ev w hev _
  rw [hop] at hev
  obtain ⟨h1, h2, h3, h4, h5⟩ := h.eq
  have g := run_eqFlat (P := P) 9998 w xs ys ds (P.fieldsOf t).toList 0 xs.toList ys.toList r (by rw [h4, List.range_eq_range']) h5 (fun i v hv => by simpa using hv) (fun i v hv => by simpa using hv) hr
  simp only [execOp, hop, hev x (by simp [Op.operands]) _ hx, hev y (by simp [Op.operands]) _ hy, Sem.run_bind, run_eqGuard_agg w .neq t x y xs ys h3, Result.andThen_ok, run_neq_struct, run_equalIn_struct w 9999 t xs ys h1 h2, g, Sem.run_pure]
/-- A struct literal. -/
theorem d_build {t : TypeId} {places : List (Nat × Nat)} {zero : List Value} {parts : Array (Nat × Operand)} {vs : List Value} {cells : Array Value} [h : Bld P t places zero] (hop : o.op = .build t parts) (hv : opvs e (parts.toList.map (·.2)) = some vs)
    (hf : Instr.fill (places[·]?) zero.toArray ((parts.toList.map (·.1)).zip vs) = some cells) : Det P e k o (.agg cells) := by
  intro ev w hev _
  rw [hop] at hev
  obtain ⟨fs, i, z, h1, h2, h3, h4, h5⟩ := h.eq
  have g := opvs_eval (parts.toList.map (·.2)) vs (fun y hy => hev y (by simpa [Op.operands] using hy)) hv
  have g2 : (parts.map fun (i, x) => (i, ev x)).toList = (parts.toList.map (·.1)).zip vs := by
    rw [← g]
    simp only [Array.toList_map, List.map_map]
    generalize parts.toList = l
    induction l with
    | nil => rfl
    | cons a l ih => simp [ih]
  have g3 : (places.toArray[·]? : Nat → Option (Nat × Nat)) = (places[·]?) := by funext j; simp
  simp only [execOp, hop, Instr.build, zeroValue, typeInfo, Sem.run_bind, run_program, Result.andThen_ok, h2, Sem.run_pure, h3, run_underlying h1, h5 w, h4, g2, g3, hf]

/-! ### new blocks -/
theorem run_zero {t : TypeId} {sz bs : Nat} {z : Value} [h : TyI P t sz bs z] (w : World) : (zeroValue t).run P w = .ok z w := by
  obtain ⟨i, h1, _, _, h4⟩ := h.eq
  simp [zeroValue, typeInfo, h1, h4]
theorem a_alloc {t : TypeId} {sz bs : Nat} {z : Value} [h : TyI P t sz bs z] (hop : o.op = .alloc t) : Alc P e k o (fun b => .pointer (some ⟨b, 0, none⟩)) (.cells z.cells t) := by
  intro ev w hev _
  simp [execOp, hop, Instr.alloc, run_zero, newVar, newRow, run_newObj_alloc]
theorem a_box {t : TypeId} {x : Operand} {v : Value} (hop : o.op = .box t x) (hx : opv e x = some v) : Alc P e k o (fun b => .pointer (some ⟨b, 0, none⟩)) (.cells v.cells t) := by
  intro ev w hev _
  rw [hop] at hev
  simp [execOp, hop, Instr.box, hev x (by simp [Op.operands]) _ hx, newVar, newRow, run_newObj_alloc]
theorem a_makeMap {t : TypeId} (hop : o.op = .makeMap t none) : Alc P e k o (fun b => .map (some b)) (.map #[] 0) := by
  intro ev w hev _
  simp [execOp, hop, Instr.makeMap, run_newObj_alloc]
theorem a_makeSlice {t et : TypeId} {x y : Operand} {m c sz bs : Nat} {z : Value} {k1 k2 : IntKind} [ht : TyU P t (.slice et)] [h : TyI P et sz bs z] (hop : o.op = .makeSlice t x y) (hx : opv e x = some (.int k1 (m : Int))) (hy : opv e y = some (.int k2 (c : Int)))
    (hmc : m ≤ c) (hb : bs * c ≤ 281474976710656) (h63 : c ≤ 9223372036854775807) : Alc P e k o (fun b => .slice (some ⟨b, 0, none⟩) m c) (.cells (madeCells z.cells (c * sz)) et) := by
  intro ev w hev _
  rw [hop] at hev
  obtain ⟨i, h1, h2, h3, h4⟩ := h.eq
  have hb' : (i.bytes : Int) * (c : Int) ≤ 281474976710656 := by
    rw [h3]
    have : ((bs * c : Nat) : Int) ≤ 281474976710656 := by omega
    rwa [Int.natCast_mul] at this
  have g := run_make (P := P) w t et i z ht.eq h1 h4 k1 k2 m c (by omega) (by omega) hb' (by omega)
  simp only [Int.toNat_natCast, h2] at g
  simp [execOp, hop, hev x (by simp [Op.operands]) _ hx, hev y (by simp [Op.operands]) _ hy, g]
theorem a_buildSlice {t et : TypeId} {len : Nat} {parts : Array (Nat × Operand)} {vs : List Value} {cells : Array Value} {sz bs : Nat} {z : Value} [ht : TyU P t (.slice et)] [h : TyI P et sz bs z] (hop : o.op = .buildSlice t len parts)
    (hv : opvs e (parts.toList.map (·.2)) = some vs) (hle : Nat.ble (len * sz) 16777216 = true) (hpos : Nat.beq (len * sz) 0 = false)
    (hf : Instr.fill (fun i => some (i * sz, sz)) (madeCells z.cells (len * sz)) ((parts.toList.map (·.1)).zip vs) = some cells) : Alc P e k o (fun b => .slice (some ⟨b, 0, none⟩) len len) (.cells cells et) := by
  intro ev w hev _
  rw [hop] at hev
  obtain ⟨i, h1, h2, h3, h4⟩ := h.eq
  have g := opvs_eval (parts.toList.map (·.2)) vs (fun y hy => hev y (by simpa [Op.operands] using hy)) hv
  have g2 : (parts.map fun (i, x) => (i, ev x)).toList = (parts.toList.map (·.1)).zip vs := by
    rw [← g]
    simp only [Array.toList_map, List.map_map]
    generalize parts.toList = l
    induction l with
    | nil => rfl
    | cons a l ih => simp [ih]
  have n1 : ¬ 2 ^ 24 < len * sz := by have := Nat.le_of_ble_eq_true hle; omega
  have n2 : ¬ len * sz = 0 := fun h => by rw [h] at hpos; cases hpos
  subst h2
  have hf' : Instr.fill (fun i_1 => some (i_1 * i.size, i.size)) (Array.map (fun x => z.cells[x % z.cells.size]!) (Array.range (len * i.size))) ((parts.toList.map (·.1)).zip vs) = some cells := hf
  simp only [execOp, hop, Instr.buildSlice, Sem.run_bind, run_underlying ht.eq, Result.andThen_ok, run_size h1, gt_iff_lt, n1, if_false, n2, run_zero, Sem.run_pure, g2, hf', newRow, run_newObj_alloc]
end
end Go.Wm

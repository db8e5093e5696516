/-
  The laws of single operations for this seat's calculus: what each yields, from what is known of its operands and of memory. Conditions: the facts on types that the program's tables give (classes TyU, TyI, FnOk).
-/
import Derived.Test.YtapfmndcjcdcjaaCore
import Derived.Laws.StructEq
import Derived.Lib.Strings
set_option linter.all false
namespace Go.Wm
open Go.RowKit

class TyU (P : Program) (t : TypeId) (d : outParam TypeDesc) : Prop where
  eq : P.underlying t = some d
/-- A type's cells, bytes and zero. -/
class TyI (P : Program) (t : TypeId) (sz : outParam Nat) (by' : outParam Nat) (z : outParam Value) : Prop where
  eq : ∃ i, P.info? t = some i ∧ i.size = sz ∧ i.bytes = by' ∧ i.zero = some z
class FnOk (P : Program) (f : FuncId) : Prop where
  eq : ∃ fn, P.funcs[f]? = some fn ∧ (fn.name == "runtime.NumGoroutine") = false ∧ fn.body.isNone = false

section
variable {P : Program} {n : Nat} {ops : Array Oper} {o : Oper} {e : Env} {k : PH}

def wantedE (ops : Array Oper) (e : Env) (o : Oper) : Option Bool :=
  match o.guard with
  | none => some true
  | some (j, b) => match (ops[j]?).bind (·.dst) with
    | some t => match get e t with
      | some (.is (.bool c)) => some (c == b)
      | some (.is (.tuple _)) => some false
      | _ => none
    | none => none

theorem getD_bool {l : Array Value} {t : Nat} {c : Bool} (h : l.getD t undef = .bool c) : l[t]? = some (.bool c) := by
  rw [Array.getD_eq_getD_getElem?] at h
  cases e : l[t]? with
  | none => simp [e, undef] at h
  | some v => simp [e] at h; rw [h]

theorem wanted_of {a : Act} (hl : ∀ t ∈ o.looksAt ops, ∀ q, get e t = some q → q.holds k (a.tmps.getD t undef)) {b : Bool} (h : wantedE ops e o = some b) : Region.wanted o (yielded ops a.tmps) = b := by
  unfold wantedE at h
  unfold Region.wanted
  split at h
  · rename_i hg
    simp only [hg]
    simpa using h
  · rename_i j want hg
    simp only [hg]
    split at h
    · rename_i t ht
      split at h
      · rename_i c hc
        have hmem : t ∈ o.looksAt ops := by
          unfold Oper.looksAt
          simp [hg, ht]
        have := hl t hmem _ hc
        have h2 := getD_bool (show a.tmps.getD t undef = .bool c from this)
        simp only [yielded, ht, Option.bind_some, h2]
        cases h
        cases c <;> cases want <;> rfl
      · rename_i vs hc
        have hmem : t ∈ o.looksAt ops := by
          unfold Oper.looksAt
          simp [hg, ht]
        have := hl t hmem _ hc
        have h2 : a.tmps.getD t undef = .tuple vs := this
        rw [Array.getD_eq_getD_getElem?] at h2
        cases h
        simp only [yielded, ht, Option.bind_some]
        cases e : a.tmps[t]? with
        | none => rfl
        | some v =>
          rw [e] at h2
          simp only [Option.getD_some] at h2
          rw [h2]
          rfl
      · cases h
    · cases h

theorem evs_of {a : Act} (hl : ∀ t ∈ o.looksAt ops, ∀ q, get e t = some q → q.holds k (a.tmps.getD t undef)) : Evs e a.eval o.op.operands.toList := by
  intro x hx u hu
  cases x with
  | tmp t =>
    simp only [opv] at hu
    split at hu
    · rename_i v hv
      cases hu
      have hmem : t ∈ o.looksAt ops := by
        unfold Oper.looksAt
        refine List.mem_append.2 (.inl ?_)
        rw [List.mem_filterMap]
        exact ⟨.tmp t, hx, rfl⟩
      exact hl t hmem _ hv
    · cases hu
  | const u => cases hu; rfl
  | global g => cases hu; rfl
  | func f => cases hu; rfl

/-- In every world that knows k the operation yields v and leaves the world as it is. -/
def Det (P : Program) (e : Env) (k : PH) (o : Oper) (v : Value) : Prop :=
  ∀ ev w, Evs e ev o.op.operands.toList → Sub k w → (execOp ev o).run P w = .ok (.value v) w
/-- It makes a block. -/
def Alc (P : Program) (e : Env) (k : PH) (o : Oper) (vf : Nat → Value) (obj : Obj) : Prop :=
  ∀ ev w, Evs e ev o.op.operands.toList → Sub k w → (execOp ev o).run P w = .ok (.value (vf w.heap.size)) (w.alloc obj)

theorem loc_det {v : Value} (hg : wantedE ops e o = some true) (h : Det P e k o v) : Loc P n ops o e k (.is v) := by
  refine ⟨trivial, fun a w k1 hk hs _ hl => ?_⟩
  rw [if_pos (wanted_of hl hg)]
  exact (ex_value (h a.eval w (evs_of hl) (hs.mono hk))).mono fun u u' ⟨h1, h2⟩ => by
    subst h2
    exact ⟨k1, Below.refl _ _, Agr.refl _ _, hs, h1⟩
theorem loc_off (hg : wantedE ops e o = some false) : Loc P n ops o e k (.is undef) := by
  refine ⟨trivial, fun a w k1 hk hs _ hl => ?_⟩
  rw [if_neg (by rw [wanted_of hl hg]; simp)]
  rfl
theorem below_alloc (w : World) (obj : Obj) : Below w.heap.size w (w.alloc obj) := (Below.refl _ _).alloc (Nat.le_refl _) obj
theorem sub_alloc {k : PH} {w : World} (h : Sub k w) (obj : Obj) : Sub (upd k w.heap.size obj) (w.alloc obj) := by
  intro b o hb
  by_cases hbs : b = w.heap.size
  · subst hbs
    rw [upd_same] at hb
    cases hb
    show (w.heap.push obj)[w.heap.size]? = _
    simp
  · rw [upd_other hbs] at hb
    have := h.lt hb
    rw [Below.heap_alloc _ _ _ this]
    exact h b o hb
theorem agr_upd {k : PH} {N b : Nat} (h : N ≤ b) (obj : Obj) : Agr N k (upd k b obj) := fun i hi => upd_other (by omega)
/-- A new block, of which it is known that it was none of those known before, and none from before N. -/
def New (kr : PH) (vf : Nat → Value) (obj : Obj) (k : PH) (v : Value) : Prop := ∃ b, v = vf b ∧ k b = some obj ∧ kr b = none
theorem loc_alloc {vf : Nat → Value} {obj : Obj} (hg : wantedE ops e o = some true) (h : Alc P e k o vf obj) : Loc P n ops o e k (.such (New k vf obj)) := by
  refine ⟨fun k1 k2 v hl ⟨b, h1, h2, h3⟩ => ⟨b, h1, hl b _ h2, h3⟩, fun a w k1 hk hs _ hl => ?_⟩
  rw [if_pos (wanted_of hl hg)]
  exact (ex_value (h a.eval w (evs_of hl) (hs.mono hk))).mono fun u u' ⟨h1, h2⟩ => by
    subst h2
    exact ⟨upd k1 w.heap.size obj, below_alloc _ _, agr_upd (Nat.le_refl _) _, sub_alloc hs _, _, h1, upd_same _ _ _, (hs.mono hk).none (Nat.le_refl _)⟩

/-! ### calls -/
def opvs (e : Env) : List Operand → Option (List Value)
  | [] => some []
  | x :: r => match opv e x with
    | some v => match opvs e r with
      | some vs => some (v :: vs)
      | none => none
    | none => none
theorem opvs_eval {ev : Operand → Value} : ∀ (l : List Operand) (vs : List Value), Evs e ev l → opvs e l = some vs → l.map ev = vs
  | [], vs, _, h => by simpa [opvs] using h
  | x :: r, vs, hev, h => by
    simp only [opvs] at h
    split at h
    · rename_i v hv
      split at h
      · rename_i us hus
        cases h
        rw [List.map_cons, hev x (by simp) v hv, opvs_eval r us (fun y hy => hev y (by simp [hy])) hus]
      · cases h
    · cases h
theorem run_enter {f : FuncId} (args : Array Value) (w : World) [h : FnOk P f] : (callFunc f args).run P w = .ok (.enter f args) w := by
  obtain ⟨fn, h1, h2, h3⟩ := h.eq
  have h4 : fn.name ≠ "runtime.NumGoroutine" := by simpa using h2
  have h5 : fn.body ≠ none := by
    intro hb
    rw [hb] at h3
    cases h3
  simp [callFunc, h1, h4, h5, program, Sem.run]

theorem run_call {ev : Operand → Value} {w : World} {x : Operand} {args : Array Operand} {ats : Array TypeId} {g : FuncId} {first cap : Array Value} {vs : List Value} [FnOk P g]
    (hop : o.op = .call { callee := .value x, args := args, argTypes := ats }) (hx : opv e x = some (.func (.func g) first cap)) (ha : opvs e args.toList = some vs) (hev : Evs e ev o.op.operands.toList) :
    (execOp ev o).run P w = .ok (.enter g (first ++ vs.toArray ++ cap)) w := by
  rw [hop] at hev
  have h1 : ev x = .func (.func g) first cap := hev x (by simp [Op.operands, Call.operands]) _ hx
  have h2 := opvs_eval args.toList vs (fun y hy => hev y (by simp [Op.operands, Call.operands] at hy ⊢; exact .inr hy)) ha
  have h3 : args.map ev = vs.toArray := by
    rw [← h2]; apply Array.toList_inj.1; simp
  simp only [execOp, hop, resolve, h1, h3, Deferred.ofValue, invoke, bind]
  simp [Sem.bind, pure]
  exact run_enter _ w

/-- A call by its contract. -/
theorem loc_call {x : Operand} {args : Array Operand} {ats : Array TypeId} {g : FuncId} {first cap : Array Value} {vs : List Value} [FnOk P g] {φ : PH → Value → Prop}
    (hg : wantedE ops e o = some true) (hop : o.op = .call { callee := .value x, args := args, argTypes := ats }) (hx : opv e x = some (.func (.func g) first cap)) (ha : opvs e args.toList = some vs)
    (hm : ∀ k k' v, Le k k' → φ k v → φ k' v) (h : CT P g (first ++ vs.toArray ++ cap) k φ) : Loc P n ops o e k (.such φ) := by
  refine ⟨hm, fun a w k1 hk hs _ hl => ?_⟩
  rw [if_pos (wanted_of hl hg)]
  exact ex_enter (run_call hop hx ha (evs_of hl)) ((h w k1 hk hs).mono fun e w' ⟨v, k', h1, h2, h3, h4, h5⟩ => ⟨v, h1, k', h2, h3, h4, h5⟩)
/-- A call whose result is one that is known. -/
theorem loc_call_is {x : Operand} {args : Array Operand} {ats : Array TypeId} {g : FuncId} {first cap : Array Value} {vs : List Value} [FnOk P g] {v : Value}
    (hg : wantedE ops e o = some true) (hop : o.op = .call { callee := .value x, args := args, argTypes := ats }) (hx : opv e x = some (.func (.func g) first cap)) (ha : opvs e args.toList = some vs)
    (h : CT P g (first ++ vs.toArray ++ cap) k (fun _ u => u = v)) : Loc P n ops o e k (.is v) := by
  refine ⟨trivial, fun a w k1 hk hs _ hl => ?_⟩
  rw [if_pos (wanted_of hl hg)]
  exact ex_enter (run_call hop hx ha (evs_of hl)) ((h w k1 hk hs).mono fun e w' ⟨v, k', h1, h2, h3, h4, h5⟩ => ⟨v, h1, k', h2, h3, h4, h5⟩)

/-! ### operations that only reckon -/
def cmpI : BinOp → Int → Int → Option Bool
  | .eql, a, b => some (a == b)
  | .neq, a, b => some (a != b)
  | .lss, a, b => some (decide (a < b))
  | .leq, a, b => some (decide (a ≤ b))
  | .gtr, a, b => some (decide (a > b))
  | .geq, a, b => some (decide (a ≥ b))
  | _, _, _ => none
def cmpS : BinOp → ByteArray → ByteArray → Option Bool
  | .eql, a, b => some (decide (a = b))
  | .neq, a, b => some (!decide (a = b))
  | .lss, a, b => some (decide (a.data.toList < b.data.toList))
  | .leq, a, b => some (decide (a.data.toList < b.data.toList) || decide (a = b))
  | .gtr, a, b => some (!(decide (a.data.toList < b.data.toList) || decide (a = b)))
  | .geq, a, b => some (!decide (a.data.toList < b.data.toList))
  | _, _, _ => none
def peval (e : Env) : Op → Option Value
  | .move x => opv e x
  | .assign x => opv e x
  | .pick c a b => match opv e c with
    | some (.bool true) => opv e a
    | some (.bool false) => opv e b
    | _ => none
  | .nilCheck x => match opv e x with
    | some (.pointer (some a)) => some (.pointer (some a))
    | some (.func (.func f) a b) => some (.func (.func f) a b)
    | _ => none
  | .binOp op _ x y _ => match opv e x, opv e y with
    | some (.int .i64 a), some (.int .i64 b) => match cmpI op a b with
      | some r => some (.bool r)
      | none => none
    | some (.string a), some (.string b) => match cmpS op a b with
      | some r => some (.bool r)
      | none => none
    | _, _ => none
  | .unOp .not _ x => match opv e x with
    | some (.bool b) => some (.bool !b)
    | _ => none
  | .extract x i => match opv e x with
    | some (.tuple vs) => vs[i]?
    | _ => none
  | .makeFunc fn first cap => match opvs e first.toList, opvs e cap.toList with
    | some a, some b => some (.func fn a.toArray b.toArray)
    | _, _ => none
  | _ => none

theorem beq_toList (a b : ByteArray) : (a.toList == b.toList) = decide (a = b) := by
  rw [Lib.toList_data, Lib.toList_data, Bool.eq_iff_iff]
  simp only [beq_iff_eq, decide_eq_true_eq]
  exact ⟨fun h => ByteArray.ext (Array.toList_inj.1 h), fun h => by rw [h]⟩

theorem less_lists : ∀ (p q : List UInt8), Op.bytesLess p q = decide (p < q)
  | [], q => by cases q <;> simp [Op.bytesLess]
  | c :: p, [] => by simp [Op.bytesLess]
  | c :: p, d :: q => by
    simp only [Op.bytesLess, less_lists p q, List.cons_lt_cons_iff]
    by_cases hl : c < d <;> by_cases he : c = d <;> simp [hl, he]

theorem d_pure {v : Value} (h : peval e o.op = some v) : Det P e k o v := by
  intro ev w hev hs
  unfold peval at h
  split at h
  · rename_i x hop
    rw [hop] at hev
    simp [execOp, hop, pure, Sem.run, hev x (by simp [Op.operands]) v h]
  · rename_i x hop
    rw [hop] at hev
    simp [execOp, hop, pure, Sem.run, hev x (by simp [Op.operands]) v h]
  · rename_i c a b hop
    rw [hop] at hev
    split at h
    · rename_i hc
      simp [execOp, hop, pure, Sem.run, hev c (by simp [Op.operands]) _ hc, hev a (by simp [Op.operands]) _ h, asBool, bind, Sem.bind]
    · rename_i hc
      simp [execOp, hop, pure, Sem.run, hev c (by simp [Op.operands]) _ hc, hev b (by simp [Op.operands]) _ h, asBool, bind, Sem.bind]
    · cases h
  · rename_i x hop
    rw [hop] at hev
    split at h
    · rename_i a hc
      cases h
      simp [execOp, hop, pure, Sem.run, hev x (by simp [Op.operands]) _ hc]
    · rename_i f a b hc
      cases h
      simp [execOp, hop, pure, Sem.run, hev x (by simp [Op.operands]) _ hc]
    · cases h
  · rename_i op t x y t' hop
    rw [hop] at hev
    split at h
    · rename_i a b hx hy
      have h1 := hev x (by simp [Op.operands]) _ hx
      have h2 := hev y (by simp [Op.operands]) _ hy
      cases op <;> simp only [cmpI] at h <;> cases h <;> simp [execOp, hop, h1, h2, eqGuard, binOp, Op.intCmp, pure, Sem.run, bind, Sem.bind]
    · rename_i a b hx hy
      have h1 := hev x (by simp [Op.operands]) _ hx
      have h2 := hev y (by simp [Op.operands]) _ hy
      have h3 := beq_toList a b
      have h4 : Op.bytesLess a.toList b.toList = decide (a.data.toList < b.data.toList) := by rw [Lib.toList_data, Lib.toList_data]; exact less_lists _ _
      cases op <;> simp only [cmpS] at h <;> cases h <;> simp only [execOp, hop, h1, h2, eqGuard, binOp, Op.stringOp, pure, bind, h3, h4] <;> simp [Sem.bind, Sem.run, pure]
    · cases h
  · rename_i t x hop
    rw [hop] at hev
    split at h
    · rename_i b hc
      cases h
      simp [execOp, hop, pure, Sem.run, hev x (by simp [Op.operands]) _ hc, Op.unary, bind, Sem.bind]
    · cases h
  · rename_i x i hop
    rw [hop] at hev
    split at h
    · rename_i vs hc
      simp [execOp, hop, pure, Sem.run, hev x (by simp [Op.operands]) _ hc, Instr.extract, bind, Sem.bind, h]
    · cases h
  · rename_i fn first cap hop
    rw [hop] at hev
    split at h
    · rename_i a b ha hb
      cases h
      have h1 := opvs_eval first.toList a (fun y hy => hev y (by simp [Op.operands] at hy ⊢; exact .inl hy)) ha
      have h2 := opvs_eval cap.toList b (fun y hy => hev y (by simp [Op.operands] at hy ⊢; exact .inr hy)) hb
      have h3 : first.map ev = a.toArray := by rw [← h1]; apply Array.toList_inj.1; simp
      have h4 : cap.map ev = b.toArray := by rw [← h2]; apply Array.toList_inj.1; simp
      simp [execOp, hop, h3, h4, Instr.makeFunc, pure, Sem.run, bind, Sem.bind]
    · cases h
  · cases h
end
end Go.Wm

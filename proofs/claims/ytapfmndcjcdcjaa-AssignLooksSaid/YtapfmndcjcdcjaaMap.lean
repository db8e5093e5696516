/-
  Maps whose keys are plain data: what a look-up, an entry, a store and an update do, from what is known of the map. Conditions: the key's type is one that '==' decides ('KeyOk').
-/
import Derived.Test.YtapfmndcjcdcjaaRep
import Derived.Test.YtapfmndcjcdcjaaEff
set_option linter.all false
namespace Go.Wm
open Go.RowKit

/-- Keys of type kt are α's data, as enc has them. -/
class KeyOk (P : Program) (kt : TypeId) {α : Type} [DecidableEq α] (enc : α → Value) : Prop where
  chk : ∀ (em : Bool) (w : World) (x : α), (Instr.checkKey em 10000 kt (enc x)).run P w = .ok () w
  eqv : ∀ (w : World) (x y : α), (Op.equal kt (enc x) (enc y)).run P w = .ok (decide (x = y)) w
  now : ∃ d, P.underlying kt = some d ∧ ((∀ x y, Instr.sameNow d (enc x) (enc y) = some (decide (x = y))) ∨ (∀ x y, Instr.sameNow d (enc x) (enc y) = none))
  bits : ∀ x : α, Instr.sameBits 10000 (enc x) (enc x) = true

def toE {α : Type} (enc : α → Value) (p : α × Value × Nat) : MapEntry := { key := enc p.1, val := p.2.1, born := p.2.2 }
/-- Where x is, and what lies there. -/
def lookE {α : Type} [DecidableEq α] (x : α) : List (α × Value × Nat) → Nat → Option (Nat × Value)
  | [], _ => none
  | p :: r, i => if x = p.1 then some (i, p.2.1) else lookE x r (i + 1)

section
variable {P : Program} {kt : TypeId} {α : Type} [DecidableEq α] {enc : α → Value}
theorem find_now {d : TypeDesc} (h : ∀ x y, Instr.sameNow d (enc x) (enc y) = some (decide (x = y))) (x : α) : ∀ (es : List (α × Value × Nat)) (i : Nat), Instr.findNow d (enc x) (es.map (toE enc)) i = some (lookE x es i)
  | [], i => rfl
  | p :: r, i => by
    simp only [List.map_cons, Instr.findNow, toE, h, lookE]
    by_cases hx : x = p.1
    · simp [hx]
    · simp only [hx, decide_false, if_false]
      exact find_now h x r (i + 1)
theorem find_ask [h : KeyOk P kt enc] (w : World) (x : α) : ∀ (es : List (α × Value × Nat)) (i : Nat), (Instr.findAsking kt (enc x) (es.map (toE enc)) i).run P w = .ok (lookE x es i) w
  | [], i => rfl
  | p :: r, i => by
    simp only [List.map_cons, Instr.findAsking, toE, Sem.run_bind, h.eqv, Result.andThen_ok, lookE]
    by_cases hx : x = p.1
    · simp [hx]
    · simp only [hx, decide_false, Bool.false_eq_true, if_false]
      exact find_ask w x r (i + 1)
theorem run_find [h : KeyOk P kt enc] (w : World) (x : α) (es : List (α × Value × Nat)) : (Instr.findKey kt (enc x) (es.map (toE enc))).run P w = .ok (lookE x es 0) w := by
  obtain ⟨d, hd, hn⟩ := h.now
  rcases hn with hn | hn
  · simp [Instr.findKey, run_underlying hd, find_now hn]
  · cases es with
    | nil => simp [Instr.findKey, run_underlying hd, Instr.findNow, lookE]
    | cons p r =>
      have : Instr.findNow d (enc x) ((p :: r).map (toE enc)) 0 = none := by simp [Instr.findNow, toE, hn]
      simp only [Instr.findKey, Sem.run_bind, run_underlying hd, Result.andThen_ok, this]
      exact find_ask w x _ 0

/-- What is at x, or z. -/
def atE (x : α) (z : Value) (es : List (α × Value × Nat)) : Value := match lookE x es 0 with | some (_, v) => v | none => z

theorem lookE_mem {x : α} : ∀ {es : List (α × Value × Nat)} {i j : Nat} {v : Value}, lookE x es i = some (j, v) → i ≤ j ∧ ∃ p, es[j - i]? = some p ∧ p.1 = x ∧ p.2.1 = v
  | [], i, j, v, h => by simp [lookE] at h
  | p :: r, i, j, v, h => by
    simp only [lookE] at h
    split at h
    · rename_i hx
      cases h
      exact ⟨Nat.le_refl _, p, by simp, hx.symm, rfl⟩
    · obtain ⟨h1, q, h2, h3, h4⟩ := lookE_mem h
      refine ⟨by omega, q, ?_, h3, h4⟩
      rw [show j - i = (j - (i + 1)) + 1 by omega]
      simpa using h2
theorem lookE_none {x : α} : ∀ {es : List (α × Value × Nat)} {i : Nat}, lookE x es i = none ↔ ∀ p ∈ es, p.1 ≠ x
  | [], i => by simp [lookE]
  | p :: r, i => by
    simp only [lookE]
    split
    · rename_i hx
      simp [hx]
    · rename_i hx
      rw [lookE_none]
      simp only [List.forall_mem_cons]
      exact ⟨fun h => ⟨fun e => hx e.symm, h⟩, fun h => h.2⟩

variable {n : Nat} {ops : Array Oper} {o : Oper} {e : Env} {k : PH}
theorem run_lookup {t et : TypeId} {sz bs : Nat} {z : Value} [ht : TyU P t (.map kt et)] [hz : TyI P et sz bs z] [h : KeyOk P kt enc] {r : Nat} {es : List (α × Value × Nat)} {cl : Nat} {w : World} (hw : w.heap[r]? = some (.map (es.map (toE enc)).toArray cl)) (x : α) (ok : Bool) :
    (Instr.lookup t (.map (some r)) (enc x) ok).run P w = .ok (if ok then .tuple #[atE x z es, .bool (lookE x es 0).isSome] else atE x z es) w := by
  simp only [Instr.lookup, Sem.run_bind, run_underlying ht.eq, Result.andThen_ok, run_getObj_map w _ _ _ hw, Sem.run_pure, h.chk, run_find, List.toList_toArray]
  unfold atE
  cases lookE x es 0 with
  | none => simp [run_zero]
  | some p => obtain ⟨i, v⟩ := p; simp
/-- A look-up. -/
theorem d_lookup {t et : TypeId} {sz bs : Nat} {z : Value} {m key : Operand} {r : Nat} {x : α} {es : List (α × Value × Nat)} {cl : Nat} [ht : TyU P t (.map kt et)] [hz : TyI P et sz bs z] [h : KeyOk P kt enc] (hop : o.op = .lookup t m key false) (hmv : opv e m = some (.map (some r))) (hkv : opv e key = some (enc x))
    (hk : k r = some (.map (es.map (toE enc)).toArray cl)) : Det P e k o (atE x z es) := by
  intro ev w hev hs
  rw [hop] at hev
  simp [execOp, hop, hev m (by simp [Op.operands]) _ hmv, hev key (by simp [Op.operands]) _ hkv, run_lookup (hs _ _ hk) x false (z := z)]
theorem d_lookup_ok {t et : TypeId} {sz bs : Nat} {z : Value} {m key : Operand} {r : Nat} {x : α} {es : List (α × Value × Nat)} {cl : Nat} [ht : TyU P t (.map kt et)] [hz : TyI P et sz bs z] [h : KeyOk P kt enc] (hop : o.op = .lookup t m key true) (hmv : opv e m = some (.map (some r))) (hkv : opv e key = some (enc x))
    (hk : k r = some (.map (es.map (toE enc)).toArray cl)) : Det P e k o (.tuple #[atE x z es, .bool (lookE x es 0).isSome]) := by
  intro ev w hev hs
  rw [hop] at hev
  simp [execOp, hop, hev m (by simp [Op.operands]) _ hmv, hev key (by simp [Op.operands]) _ hkv, run_lookup (hs _ _ hk) x true (z := z)]
/-- A look-up in worlds of a phase. -/
theorem li_lookup {I : PH → World → Prop} {t et : TypeId} {sz bs : Nat} {z : Value} {m key : Operand} {r : Nat} {x : α} {v : Value} [ht : TyU P t (.map kt et)] [hz : TyI P et sz bs z] [h : KeyOk P kt enc] (hg : wantedE ops e o = some true) (hop : o.op = .lookup t m key false) (hmv : opv e m = some (.map (some r))) (hkv : opv e key = some (enc x))
    (hI : ∀ k w, I k w → ∃ (es : List (α × Value × Nat)) (cl : Nat), w.heap[r]? = some (.map (es.map (toE enc)).toArray cl) ∧ atE x z es = v) : LocI P n ops I o e k (.is v) := by
  refine ⟨trivial, fun a w k1 hk hs hi _ hl => ?_⟩
  rw [if_pos (wanted_of hl hg)]
  have hev := evs_of hl
  rw [hop] at hev
  obtain ⟨es, cl, hw, hv⟩ := hI _ w hi
  have hr : (execOp a.eval o).run P w = .ok (.value v) w := by
    simp [execOp, hop, hev m (by simp [Op.operands]) _ hmv, hev key (by simp [Op.operands]) _ hkv, run_lookup hw x false (z := z), hv]
  exact (ex_value hr).mono fun u u' ⟨h1, h2⟩ => by
    subst h2
    exact ⟨k1, Below.refl _ _, Agr.refl _ _, hs, h1⟩

/-- The map behind 'mapEntry', and the stamp of the entry. -/
def entE (x : α) (z : Value) (es : List (α × Value × Nat)) (cl : Nat) : List (α × Value × Nat) × Nat × Nat :=
  match lookE x es 0 with
  | some (i, _) => (es, cl, ((es[i]?).map (·.2.2)).getD 0)
  | none => (es ++ [(x, z, cl)], cl + 1, cl)
theorem heap_setObj {w : World} {r : Nat} {ob o' : Obj} (h : w.heap[r]? = some ob) : (w.heap.setIfInBounds r o')[r]? = some o' := by
  have : r < w.heap.size := (Array.getElem?_eq_some_iff.1 h).1
  simp [this]
theorem set_map {w : World} {r : Nat} {es : Array MapEntry} {cl : Nat} (ob : Obj) (h : w.heap[r]? = some (.map es cl)) : (setObj r ob).run P w = .ok () { w with heap := w.heap.setIfInBounds r ob } := by
  simp [setObj, Sem.run, h]
theorem run_entry [h : KeyOk P kt enc] {t et : TypeId} {sz bs : Nat} {z : Value} [ht : TyU P t (.map kt et)] [hz : TyI P et sz bs z] {r : Nat} {es : List (α × Value × Nat)} {cl : Nat} {w : World} (hw : w.heap[r]? = some (.map (es.map (toE enc)).toArray cl)) (x : α) :
    (Instr.mapEntry t (.map (some r)) (enc x)).run P w = .ok (.tuple #[atE x z es, .int .i64 ((entE x z es cl).2.2 : Nat)]) { w with heap := w.heap.setIfInBounds r (.map (((entE x z es cl).1).map (toE enc)).toArray (entE x z es cl).2.1) } := by
  simp only [Instr.mapEntry, Sem.run_bind, run_underlying ht.eq, Result.andThen_ok, run_getObj_map w _ _ _ hw, h.chk, run_find, List.toList_toArray]
  unfold atE entE
  cases hl : lookE x es 0 with
  | none =>
    simp [run_zero, set_map _ hw, goInt, toE]
  | some p =>
    obtain ⟨i, v⟩ := p
    obtain ⟨_, q, hq, hqx, hqv⟩ := lookE_mem hl
    simp only [Nat.sub_zero] at hq
    have hlt : i < es.length := (List.getElem?_eq_some_iff.1 hq).1
    subst hqx
    have hmod : ((es.map (toE enc)).modify i fun en => { en with key := enc q.1 }) = es.map (toE enc) := by
      apply List.ext_getElem?
      intro j
      rw [List.getElem?_modify]
      split
      · rename_i hji
        subst hji
        simp [hq, toE]
      · simp
    simp [Instr.keyThatStays, h.bits, set_map _ hw, hmod, goInt, hq, toE]
/-- The map behind 'entryStore'. -/
def putE (st : Nat) (v : Value) (es : List (α × Value × Nat)) : List (α × Value × Nat) := match es.findIdx? (fun p => p.2.2 == st) with
  | some i => es.modify i (fun p => (p.1, v, p.2.2))
  | none => es
theorem run_entryStore {t : TypeId} {r : Nat} {es : List (α × Value × Nat)} {cl st : Nat} {v : Value} {w : World} (hw : w.heap[r]? = some (.map (es.map (toE enc)).toArray cl)) (hst : ∃ p ∈ es, p.2.2 = st) :
    (Instr.entryStore t (.map (some r)) (.int .i64 (st : Int)) v).run P w = .ok () { w with heap := w.heap.setIfInBounds r (.map ((putE st v es).map (toE enc)).toArray cl) } := by
  have hf : ((es.map (toE enc)).toArray.findIdx? fun en => ((en.born : Int) == (st : Int))) = es.findIdx? (fun p => p.2.2 == st) := by
    rw [List.findIdx?_toArray, List.findIdx?_map]
    congr 1
    funext p
    show decide ((p.2.2 : Int) = (st : Int)) = decide (p.2.2 = st)
    simp
    omega
  simp only [Instr.entryStore, Sem.run_bind, run_getObj_map w _ _ _ hw, Result.andThen_ok, asInt, asIntOf, Sem.run_pure, hf]
  unfold putE
  cases hi : es.findIdx? (fun p => p.2.2 == st) with
  | none =>
    exfalso
    rw [List.findIdx?_eq_none_iff] at hi
    obtain ⟨p, hp, hps⟩ := hst
    have := hi p hp
    simp [hps] at this
  | some i =>
    simp only [set_map _ hw]
    congr 4
    apply Array.toList_inj.1
    simp only [Array.toList_modify, List.toList_toArray]
    apply List.ext_getElem?
    intro j
    simp only [List.getElem?_modify, List.getElem?_map]
    cases es[j]? <;> simp <;> split <;> simp [toE]
end
end Go.Wm
namespace Go.Wm
def del (k : PH) (r : Nat) : PH := fun i => if i = r then none else k i
theorem del_le (k : PH) (r : Nat) : Le (del k r) k := fun b o h => by
  unfold del at h
  split at h
  · cases h
  · exact h
section
variable {P : Program} {F : Fr} {n : Nat} {Q : Exit → Act → World → Prop} {e : Env} {k : PH}
theorem St.del {r : Nat} {w : World} (h : St F k w) (hr : F.w0.heap.size ≤ r) : St F (del k r) w :=
  h.weak (del_le k r) fun b hb hm => by
    have : b ≠ r := by omega
    simp only [Wm.del, this, if_false]
    exact h.keep b hb hm
/-- The block r is ob, and nothing is known of it. -/
def HasAt (r : Nat) (ob : Obj) (k : PH) (w : World) : Prop := w.heap[r]? = some ob ∧ k r = none
theorem hasAt_stays (r : Nat) (ob : Obj) (k : PH) (w : World) (k' : PH) (w' : World) (hb : RowKit.Below w.heap.size w w') (ha : Agr w.heap.size k k') (h : HasAt r ob k w) : HasAt r ob k' w' := by
  have hr := (Array.getElem?_eq_some_iff.1 h.1).1
  exact ⟨by rw [hb.block r hr]; exact h.1, (ha r hr).trans h.2⟩
/-- A region that draws, one of whose operations turns the block r of the call's own from o0 to o1, and whose last operation waits for the others. -/
theorem cg_eff {id : Nat} {l : List Oper} {last : Oper} [hm : Mixed P] (r : Nat) (o0 o1 : Obj) (hl : l = l.dropLast ++ [last]) (hok : okAny n l = true) (hlast : lastOk l = true) (hdst : (l.dropLast.all fun o => o.dst.isSome) = true) (hdet : det e = true) (hk : k r = some o0) (hr : F.w0.heap.size ≤ r)
    (h : WE P F n l.toArray (del k r) (HasAt r o0) (fun _ => HasAt r o1) (fun _ e' => det e' = true ∧ RG P F n l.toArray Q [last] e' (upd k r o1)) 0 none l.dropLast e) : CG P F n Q (.region id l.toArray true) e k := by
  intro a w ha hs
  generalize l.dropLast = A at hl hdst h
  subst hl
  refine region_eff (F := F) hm.eq hok hlast (fun o ho => (List.all_eq_true.1 hdst) o ho) (hasAt_stays r o0) (fun _ => hasAt_stays r o1) (fun t q hg => by obtain ⟨v, rfl⟩ := det_get hdet hg; trivial) (ha.heap hdet) (hs.del hr) (k := Wm.del k r) ⟨hs.sub r _ hk, by simp [Wm.del]⟩ ?_
  revert h
  have mono : ∀ (l : List Oper) (i : Nat) (d : Option Nat) (e : Env), WE P F n (A ++ [last]).toArray (Wm.del k r) (HasAt r o0) (fun _ => HasAt r o1) (fun _ e' => det e' = true ∧ RG P F n (A ++ [last]).toArray Q [last] e' (upd k r o1)) i d l e → (∀ x, d = some x → x < A.length) → i + l.length = A.length →
      WE P F n (A ++ [last]).toArray (Wm.del k r) (HasAt r o0) (fun _ => HasAt r o1) (fun j e' => ∀ k' a' w', Le (Wm.del k r) k' → Ag n e' k' a' → St F k' w' → (∀ o d, (A ++ [last])[j]? = some o → o.dst = some d → HasAt r o1 k' w') → wpList P (A ++ [last]).toArray Q [last] a' w') i d l e := by
    intro l
    induction l with
    | nil =>
      rintro i d e ⟨j, hd, hde, hRG⟩ hx _
      refine ⟨j, hd, fun k' a' w' hle hag hst hX => hRG a' w' (hag.heap hde) ?_⟩
      have hj := hx j hd
      have hoj : A[j]? = some A[j] := List.getElem?_eq_getElem hj
      have hdj := (List.all_eq_true.1 hdst) A[j] (List.getElem_mem hj)
      obtain ⟨dd, hdd⟩ := Option.isSome_iff_exists.1 hdj
      have hw := (hX A[j] dd (by rw [List.getElem?_append_left hj]; exact hoj) hdd).1
      refine ⟨hst.os, hst.tape, hst.output, hst.size, hst.old, fun b ob hb => ?_, fun b hb hmu => ?_⟩
      · by_cases hbr : b = r
        · subst hbr
          rw [upd_same] at hb
          cases hb
          exact hw
        · rw [upd_other hbr] at hb
          exact hst.sub b ob (hle b ob (by simp only [Wm.del, hbr, if_false]; exact hb))
      · have : b ≠ r := by omega
        rw [upd_other this]
        exact hs.keep b hb hmu
    | cons o l ih =>
      intro i d e h hx hlen
      simp only [List.length_cons] at hlen
      rcases h with ⟨p, h0, h1, h⟩ | ⟨hd, p, h0, h⟩
      · exact .inl ⟨p, h0, h1, ih _ _ _ h hx (by omega)⟩
      · exact .inr ⟨hd, p, h0, ih _ _ _ h (fun x hx => by cases hx; omega) (by omega)⟩
  exact fun h => mono A 0 none e h (fun x hx => by cases hx) (by omega)

section
variable {kt : TypeId} {α : Type} [DecidableEq α] {enc : α → Value} {ops : Array Oper} {o : Oper} {rest : List Oper}
/-- 'mapEntry' as the one operation that turns the map. -/
theorem eff_entry {kr : PH} {t et : TypeId} {sz bs : Nat} {z : Value} {m key : Operand} {r : Nat} {x : α} {es : List (α × Value × Nat)} {cl : Nat} [ht : TyU P t (.map kt et)] [hz : TyI P et sz bs z] [h : KeyOk P kt enc] (hg : o.guard = none) (hop : o.op = .mapEntry t m key) (hmv : opv e m = some (.map (some r))) (hkv : opv e key = some (enc x))
    (hr : F.w0.heap.size ≤ r) : EffI P F n ops (HasAt r (.map (es.map (toE enc)).toArray cl)) (fun _ => HasAt r (.map (((entE x z es cl).1).map (toE enc)).toArray (entE x z es cl).2.1)) o e (del kr r) (.is (.tuple #[atE x z es, .int .i64 ((entE x z es cl).2.2 : Nat)])) := by
  refine ⟨trivial, hg, fun a w k1 hk hs ⟨hx, hkr⟩ hsz hl => ?_⟩
  have hev := evs_of hl
  rw [hop] at hev
  have hrun : (execOp a.eval o).run P w = .ok (.value (.tuple #[atE x z es, .int .i64 ((entE x z es cl).2.2 : Nat)])) { w with heap := w.heap.setIfInBounds r (.map (((entE x z es cl).1).map (toE enc)).toArray (entE x z es cl).2.1) } := by
    have := run_entry (P := P) (t := t) hx x (z := z)
    simp [execOp, hop, hev m (by simp [Op.operands]) _ hmv, hev key (by simp [Op.operands]) _ hkv, this]
  refine (ex_value hrun).mono ?_
  rintro u u' ⟨rfl, rfl⟩
  have hb : (w.heap.setIfInBounds r (Obj.map (((entE x z es cl).1).map (toE enc)).toArray (entE x z es cl).2.1))[r]? = some (.map (((entE x z es cl).1).map (toE enc)).toArray (entE x z es cl).2.1) := heap_setObj hx
  have hst := hs.turn (w' := { w with heap := w.heap.setIfInBounds r (.map (((entE x z es cl).1).map (toE enc)).toArray (entE x z es cl).2.1) }) (.inl hr) rfl rfl rfl (by simp) hb (fun i hi _ => by simp [Array.getElem?_setIfInBounds, Ne.symm hi])
  refine ⟨k1, Le.refl _, hst.weak ((Le.refl k1).upd hkr) hs.keep, by simp, ⟨hb, hkr⟩, rfl⟩
/-- 'entryStore'. -/
theorem r_entryStore {t : TypeId} {m s y : Operand} {r st : Nat} {v : Value} {es : List (α × Value × Nat)} {cl : Nat} (hd : o.dst = none) (hdet : det e = true) (hg : o.guard = none) (hop : o.op = .entryStore t m s y) (hmv : opv e m = some (.map (some r))) (hsv : opv e s = some (.int .i64 (st : Int))) (hyv : opv e y = some v)
    (hk : k r = some (.map (es.map (toE enc)).toArray cl)) (hst : ∃ p ∈ es, p.2.2 = st) (hr : F.w0.heap.size ≤ r) (h : RG P F n ops Q rest e (upd k r (.map ((putE st v es).map (toE enc)).toArray cl))) : RG P F n ops Q (o :: rest) e k := by
  intro a w ha hs
  unfold wpList
  rw [if_pos (by simp [Region.wanted, hg])]
  have hev := evs_of (ops := ops) (o := o) (ag_looks ha)
  rw [hop] at hev
  have hw := hs.sub _ _ hk
  have hrun := run_entryStore (P := P) (t := t) (v := v) hw hst
  have hx : (execOp a.eval o).run P w = .ok .skip { w with heap := w.heap.setIfInBounds r (.map ((putE st v es).map (toE enc)).toArray cl) } := by
    simp [execOp, hop, hev m (by simp [Op.operands]) _ hmv, hev s (by simp [Op.operands]) _ hsv, hev y (by simp [Op.operands]) _ hyv, hrun]
  refine .inl (ex_skip hx _ _ ?_)
  rintro u w' ⟨rfl, rfl⟩
  rw [hd]
  exact h _ _ (ha.heap hdet) (hs.turn (.inl hr) rfl rfl rfl (by simp) (heap_setObj hw) fun i hi _ => by simp [Array.getElem?_setIfInBounds, Ne.symm hi])
end
end
end Go.Wm
namespace Go.Wm
def plainD : TypeDesc → Bool
  | .int _ => true
  | .bool => true
  | .string => true
  | _ => false
section
variable {P : Program}
theorem chk_plain {t : TypeId} {d : TypeDesc} (h : P.underlying t = some d) (hd : plainD d = true) (em : Bool) (m : Nat) (v : Value) (w : World) : (Instr.checkKey em (m + 1) t v).run P w = .ok () w := by
  cases d <;> simp [plainD] at hd <;> simp [Instr.checkKey, run_underlying h]
theorem chk_fields (em : Bool) (m : Nat) (xs : Array Value) : ∀ (fs : List Field) (w : World), (∀ f ∈ fs, ∃ d v, P.underlying f.type = some d ∧ plainD d = true ∧ xs[f.offset]? = some v) →
    (forIn fs PUnit.unit (fun f _ => (if f.name ≠ "_" then do
        Instr.checkKey em (m + 1) f.type (← part f.type xs f.offset)
        pure (ForInStep.yield PUnit.unit)
      else pure (ForInStep.yield PUnit.unit) : Sem (ForInStep PUnit)))).run P w = .ok PUnit.unit w
  | [], w, _ => by simp
  | f :: fs, w, h => by
    obtain ⟨d, v, h1, h2, h3⟩ := h f (by simp)
    have ih := chk_fields em m xs fs w (fun g hg => h g (by simp [hg]))
    have ag : (isAgg f.type).run P w = .ok false w := by
      rw [run_isAgg h1]
      cases d <;> simp [plainD] at h2 <;> rfl
    have hp : (part f.type xs f.offset).run P w = .ok v w := by
      simp [part, ag, h3]
    by_cases hn : f.name = "_"
    · simp only [List.forIn_cons, hn, ne_eq, not_true_eq_false, if_false, Sem.run_bind, Sem.run_pure, Result.andThen_ok]
      exact ih
    · simp only [List.forIn_cons, hn, ne_eq, not_false_eq_true, if_true, Sem.run_bind, hp, Result.andThen_ok, chk_plain h1 h2, Sem.run_pure]
      exact ih
/-- A flat struct as a key. -/
theorem chk_flat {t : TypeId} {ds : List (TypeId × TypeDesc)} [h : Flat P t ds] (hd : (ds.all fun d => plainD d.2) = true) (em : Bool) (m : Nat) (xs : List Value) (hl : xs.length = ds.length) (w : World) : (Instr.checkKey em (m + 2) t (.agg xs.toArray)).run P w = .ok () w := by
  obtain ⟨h1, h2, h3, h4, h5⟩ := h.eq
  have hall : ∀ f ∈ (P.fieldsOf t).toList, ∃ d v, P.underlying f.type = some d ∧ plainD d = true ∧ xs.toArray[f.offset]? = some v := by
    intro f hf
    obtain ⟨i, hi⟩ := List.getElem?_of_mem hf
    have := congrArg (fun l => l[i]?) h4
    simp only [List.getElem?_map, hi, Option.map_some] at this
    rw [List.getElem?_zipWith] at this
    cases hdi : ds[i]? with
    | none => simp [hdi] at this
    | some d =>
      have hlt : i < ds.length := (List.getElem?_eq_some_iff.1 hdi).1
      simp only [hdi, List.getElem?_range hlt] at this
      simp only [Option.some.injEq, Prod.mk.injEq] at this
      obtain ⟨_, e2, e3⟩ := this
      refine ⟨d.2, xs[i]'(by omega), by rw [e2]; exact (h5 d (List.mem_of_getElem? hdi)).1, List.all_eq_true.1 hd d (List.mem_of_getElem? hdi), ?_⟩
      rw [e3]
      simp [hl, hlt]
  have g := chk_fields (P := P) em m xs.toArray (P.fieldsOf t).toList w hall
  rw [Instr.checkKey]
  simp only [Sem.run_bind, run_underlying h1, Result.andThen_ok]
  rw [← Array.forIn_toList]
  simp at g ⊢
  rw [g]
  rfl
end
end Go.Wm
namespace Go.Wm
section
variable {P : Program} {F : Fr} {n : Nat} {Q : Exit → Act → World → Prop} {e : Env} {k : PH} {kt : TypeId} {α : Type} [DecidableEq α] {enc : α → Value} {ops : Array Oper} {o : Oper} {rest : List Oper}
/-- The map behind 'm[x] = v'. -/
def updE (x : α) (v : Value) (es : List (α × Value × Nat)) (cl : Nat) : List (α × Value × Nat) × Nat :=
  match lookE x es 0 with
  | some (i, _) => (es.modify i (fun p => (p.1, v, p.2.2)), cl)
  | none => (es ++ [(x, v, cl)], cl + 1)
theorem run_update [h : KeyOk P kt enc] {t et : TypeId} [ht : TyU P t (.map kt et)] {r : Nat} {es : List (α × Value × Nat)} {cl : Nat} {w : World} (hw : w.heap[r]? = some (.map (es.map (toE enc)).toArray cl)) (x : α) (v : Value) :
    (Instr.mapUpdate t (.map (some r)) (enc x) v).run P w = .ok () { w with heap := w.heap.setIfInBounds r (.map (((updE x v es cl).1).map (toE enc)).toArray (updE x v es cl).2) } := by
  simp only [Instr.mapUpdate, Sem.run_bind, run_underlying ht.eq, Result.andThen_ok, run_getObj_map w _ _ _ hw, h.chk, run_find, List.toList_toArray]
  unfold updE
  cases hl : lookE x es 0 with
  | none =>
    simp [set_map _ hw, toE]
  | some p =>
    obtain ⟨i, u⟩ := p
    obtain ⟨_, q, hq, hqx, hqv⟩ := lookE_mem hl
    simp only [Nat.sub_zero] at hq
    have hlt : i < es.length := (List.getElem?_eq_some_iff.1 hq).1
    subst hqx
    have hmod : ((es.map (toE enc)).modify i fun en => { en with key := enc q.1, val := v }) = (es.modify i (fun p => (p.1, v, p.2.2))).map (toE enc) := by
      apply List.ext_getElem?
      intro j
      rw [List.getElem?_modify, List.getElem?_map, List.getElem?_map, List.getElem?_modify]
      by_cases hji : i = j
      · subst hji
        simp [hq, toE]
      · simp [hji]
    simp [Instr.keyThatStays, h.bits, set_map _ hw, hmod, hq, toE]
theorem r_update {t et : TypeId} {m key y : Operand} {r : Nat} {x : α} {v : Value} {es : List (α × Value × Nat)} {cl : Nat} [h : KeyOk P kt enc] [ht : TyU P t (.map kt et)] (hd : o.dst = none) (hdet : det e = true) (hg : o.guard = none) (hop : o.op = .mapUpdate t m key y) (hmv : opv e m = some (.map (some r))) (hkv : opv e key = some (enc x)) (hyv : opv e y = some v)
    (hk : k r = some (.map (es.map (toE enc)).toArray cl)) (hr : F.w0.heap.size ≤ r) (hh : RG P F n ops Q rest e (upd k r (.map (((updE x v es cl).1).map (toE enc)).toArray (updE x v es cl).2))) : RG P F n ops Q (o :: rest) e k := by
  intro a w ha hs
  unfold wpList
  rw [if_pos (by simp [Region.wanted, hg])]
  have hev := evs_of (ops := ops) (o := o) (ag_looks ha)
  rw [hop] at hev
  have hw := hs.sub _ _ hk
  have hrun := run_update (P := P) (t := t) hw x v
  have hx : (execOp a.eval o).run P w = .ok .skip { w with heap := w.heap.setIfInBounds r (.map (((updE x v es cl).1).map (toE enc)).toArray (updE x v es cl).2) } := by
    simp [execOp, hop, hev m (by simp [Op.operands]) _ hmv, hev key (by simp [Op.operands]) _ hkv, hev y (by simp [Op.operands]) _ hyv, hrun]
  refine .inl (ex_skip hx _ _ ?_)
  rintro u w' ⟨rfl, rfl⟩
  rw [hd]
  exact hh _ _ (ha.heap hdet) (hs.turn (.inl hr) rfl rfl rfl (by simp) (heap_setObj hw) fun i hi _ => by simp [Array.getElem?_setIfInBounds, Ne.symm hi])
end
end Go.Wm

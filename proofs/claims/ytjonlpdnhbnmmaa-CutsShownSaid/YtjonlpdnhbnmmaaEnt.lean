/-
  'm[k] op= v' in a region in order: the entry, and its store, one behind the other. Conditions: none beyond those of each law.
-/
import Derived.Test.YtjonlpdnhbnmmaaCoB
set_option linter.all false
namespace Go.Wm
open Go.RowKit
section
variable {P : Program} {F : Fr} {n : Nat} {Q : Exit → Act → World → Prop} {e : Env} {k : PH} {kt : TypeId} {α : Type} [DecidableEq α] {enc : α → Value} {ops : Array Oper} {o : Oper} {rest : List Oper}
/-- 'mapEntry'. -/
theorem r_entry {t et : TypeId} {sz bs d : Nat} {z : Value} {m key : Operand} {r : Nat} {x : α} {es : List (α × Value × Nat)} {cl : Nat} [ht : TyU P t (.map kt et)] [hz : TyI P et sz bs z] [h : KeyOk P kt enc] (hd : o.dst = some d) (hf : Nat.blt d n = true) (hdet : det e = true) (hg : o.guard = none) (hop : o.op = .mapEntry t m key) (hmv : opv e m = some (.map (some r))) (hkv : opv e key = some (enc x))
    (hk : k r = some (.map (es.map (toE enc)).toArray cl)) (hr : F.w0.heap.size ≤ r)
    (hh : RG P F n ops Q rest ((d, .is (.tuple #[atE x z es, .int .i64 ((entE x z es cl).2.2 : Nat)])) :: e) (upd k r (.map (((entE x z es cl).1).map (toE enc)).toArray (entE x z es cl).2.1))) : RG P F n ops Q (o :: rest) e k := by
  intro a w ha hs
  unfold wpList
  rw [if_pos (by simp [Region.wanted, hg])]
  have hev := evs_of (ops := ops) (o := o) (ag_looks ha)
  rw [hop] at hev
  have hw := hs.sub _ _ hk
  have hrun : (execOp a.eval o).run P w = .ok (.value (.tuple #[atE x z es, .int .i64 ((entE x z es cl).2.2 : Nat)])) { w with heap := w.heap.setIfInBounds r (.map (((entE x z es cl).1).map (toE enc)).toArray (entE x z es cl).2.1) } := by
    have := run_entry (P := P) (t := t) hw x (z := z)
    simp [execOp, hop, hev m (by simp [Op.operands]) _ hmv, hev key (by simp [Op.operands]) _ hkv, this]
  refine .inl (ex_value hrun _ _ ?_)
  rintro u w' ⟨rfl, rfl⟩
  rw [hd]
  exact hh _ _ ((ha.heap hdet).put (d := some d) (p := .is _) hf rfl) (hs.turn (.inl hr) rfl rfl rfl (by simp) (heap_setObj hw) fun i hi _ => by simp [Array.getElem?_setIfInBounds, Ne.symm hi])
theorem erase_map {β γ : Type} (f : β → γ) : ∀ (l : List β) (i : Nat), (l.map f).eraseIdx i = (l.eraseIdx i).map f
  | [], i => by simp
  | x :: l, 0 => by simp
  | x :: l, i + 1 => by simp [erase_map f l i]
/-- The entries without those of a key. -/
def delE (x : α) (es : List (α × Value × Nat)) : List (α × Value × Nat) := match lookE x es 0 with
  | some (i, _) => es.eraseIdx i
  | none => es
theorem run_delete {t et : TypeId} [ht : TyU P t (.map kt et)] [h : KeyOk P kt enc] {r : Nat} {es : List (α × Value × Nat)} {cl : Nat} {w : World} (hw : w.heap[r]? = some (.map (es.map (toE enc)).toArray cl)) (x : α) (ty : TypeId) (ats : Array TypeId) (ha : ats[0]? = some t) :
    (Builtin.delete_ ats ty #[.map (some r), enc x]).run P w = .ok (.tuple #[]) { w with heap := w.heap.setIfInBounds r (.map ((delE x es).map (toE enc)).toArray cl) } := by
  unfold delE
  cases hl : lookE x es 0 with
  | none => simp [Builtin.delete_, ha, run_underlying ht.eq, run_getObj_map w _ _ _ hw, h.chk, run_find, hl, set_map _ hw]
  | some p =>
    obtain ⟨i, v⟩ := p
    simp [Builtin.delete_, ha, run_underlying ht.eq, run_getObj_map w _ _ _ hw, h.chk, run_find, hl, set_map _ hw, erase_map]
/-- 'delete(m, k)'. -/
theorem r_delete {t et : TypeId} {ats : Array TypeId} {m key : Operand} {r : Nat} {x : α} {es : List (α × Value × Nat)} {cl : Nat} [ht : TyU P t (.map kt et)] [h : KeyOk P kt enc] (hd : o.dst = none) (hdet : det e = true) (hg : o.guard = none) (hop : o.op = .call { callee := .builtin .delete, args := #[m, key], argTypes := ats }) (hat : ats[0]? = some t) (hmv : opv e m = some (.map (some r))) (hkv : opv e key = some (enc x))
    (hk : k r = some (.map (es.map (toE enc)).toArray cl)) (hr : F.w0.heap.size ≤ r)
    (hh : RG P F n ops Q rest e (upd k r (.map ((delE x es).map (toE enc)).toArray cl))) : RG P F n ops Q (o :: rest) e k := by
  intro a w ha hs
  unfold wpList
  rw [if_pos (by simp [Region.wanted, hg])]
  have hev := evs_of (ops := ops) (o := o) (ag_looks ha)
  rw [hop] at hev
  have hw := hs.sub _ _ hk
  have hrun : (execOp a.eval o).run P w = .ok (.value (.tuple #[])) { w with heap := w.heap.setIfInBounds r (.map ((delE x es).map (toE enc)).toArray cl) } := by
    have := run_delete (P := P) (t := t) hw x o.type ats hat
    simp [execOp, hop, resolve, invoke, builtin, hev m (by simp [Op.operands, Call.operands]) _ hmv, hev key (by simp [Op.operands, Call.operands]) _ hkv, this]
  refine .inl (ex_value hrun _ _ ?_)
  rintro u w' ⟨rfl, rfl⟩
  rw [hd]
  exact hh _ _ (ha.heap hdet) (hs.turn (.inl hr) rfl rfl rfl (by simp) (heap_setObj hw) fun i hi _ => by simp [Array.getElem?_setIfInBounds, Ne.symm hi])
end
end Go.Wm
namespace Go.Wm
open Go.RowKit
section
variable {α : Type} [DecidableEq α]
/-- Without the first of a key. -/
def kdel1 {β : Type} (x : α) : List (α × β) → List (α × β)
  | [] => []
  | p :: l => if x = p.1 then l else p :: kdel1 x l
theorem kdel1_sub {β : Type} (x : α) : ∀ l : List (α × β), (kdel1 x l).Sublist l
  | [] => List.Sublist.refl _
  | p :: l => by
    simp only [kdel1]
    split
    · exact List.sublist_cons_self _ _
    · exact (kdel1_sub x l).cons₂ _
theorem kdel1_map {β γ : Type} (x : α) (f : β → γ) : ∀ l : List (α × β), kdel1 x (l.map fun p => (p.1, f p.2)) = (kdel1 x l).map fun p => (p.1, f p.2)
  | [] => rfl
  | p :: l => by
    simp only [List.map_cons, kdel1]
    split
    · rfl
    · simp [kdel1_map x f l]
theorem kdel1_mem {β : Type} {x : α} {p : α × β} : ∀ {l : List (α × β)}, p ∈ l → p.1 ≠ x → p ∈ kdel1 x l
  | q :: l, h, hn => by
    simp only [kdel1]
    rcases List.mem_cons.1 h with rfl | h
    · rw [if_neg (Ne.symm hn)]; simp
    · split
      · exact h
      · exact List.mem_cons_of_mem _ (kdel1_mem h hn)
theorem kdel1_len {β : Type} {x : α} : ∀ {l : List (α × β)}, x ∈ l.map (·.1) → (kdel1 x l).length + 1 = l.length
  | q :: l, h => by
    simp only [kdel1]
    split
    · simp
    · rename_i hne
      rw [List.map_cons, List.mem_cons] at h
      have := kdel1_len (l := l) (h.resolve_left hne)
      simp only [List.length_cons]
      omega
theorem kdel1_nodup {β : Type} {x : α} {l : List (α × β)} (h : (l.map (·.1)).Nodup) : ((kdel1 x l).map (·.1)).Nodup := h.sublist ((kdel1_sub x l).map _)
theorem delE_eq (x : α) (es : List (α × Value × Nat)) : delE x es = kdel1 x es := by
  have key : ∀ (es : List (α × Value × Nat)) (i : Nat), (match lookE x es i with | some (j, _) => es.eraseIdx (j - i) | none => es) = kdel1 x es := by
    intro es
    induction es with
    | nil => intro i; rfl
    | cons p es ih =>
      intro i
      simp only [lookE, kdel1]
      by_cases h : x = p.1
      · simp [h]
      · simp only [h, if_false]
        have := ih (i + 1)
        cases hl : lookE x es (i + 1) with
        | none => rw [hl] at this; simp only at this ⊢; rw [← this]
        | some q =>
          rw [hl] at this
          obtain ⟨j, v⟩ := q
          have hj := (lookE_mem hl).1
          simp only at this ⊢
          rw [← this, show j - i = (j - (i + 1)) + 1 by omega, List.eraseIdx_cons_succ]
  exact key es 0
theorem MapAt.del1 {enc : α → Value} {k' : PH} {r cl : Nat} {x : α} {es : List (α × Value × Nat)} (hk : k' r = some (.map ((delE x es).map (toE enc)).toArray cl)) (hn : (es.map (·.2.2)).Nodup) (hlt : ∀ p ∈ es, p.2.2 < cl) :
    MapAt enc k' r (kdel1 x (es.map fun p => (p.1, p.2.1))) := by
  refine ⟨delE x es, cl, hk, ?_, ?_, fun p hp => ?_⟩
  · rw [delE_eq, kdel1_map x (fun q : Value × Nat => q.1)]
  · rw [delE_eq]; exact hn.sublist ((kdel1_sub x es).map _)
  · rw [delE_eq] at hp; exact hlt p ((kdel1_sub x es).subset hp)
end
end Go.Wm

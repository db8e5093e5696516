/-
  Maps by their keys and values: look-ups, length, updates. Conditions: the key's type is one that '==' decides ('KeyOk').
-/
import Derived.Test.YtapfmndcjcdcjaaMap
import Derived.Test.YtapfmndcjcdcjaaRws
import Derived.Laws.Cover3
set_option linter.all false
namespace Go.Wm
open Go.RowKit
section
variable {α : Type} [DecidableEq α]
def kget (x : α) : List (α × Value) → Option Value
  | [] => none
  | p :: r => if x = p.1 then some p.2 else kget x r
def kput (x : α) (v : Value) : List (α × Value) → List (α × Value)
  | [] => [(x, v)]
  | p :: r => if x = p.1 then (p.1, v) :: r else p :: kput x v r
def kdel (x : α) (l : List (α × Value)) : List (α × Value) := l.filter fun p => !decide (x = p.1)
theorem kget_put (x y : α) (v : Value) : ∀ l : List (α × Value), kget y (kput x v l) = if y = x then some v else kget y l
  | [] => by simp [kput, kget]
  | p :: r => by
    simp only [kput]
    by_cases h : x = p.1
    · simp only [h, if_true, kget]
      by_cases h2 : y = p.1 <;> simp [h2]
    · simp only [h, if_false, kget, kget_put x y v r]
      by_cases h2 : y = p.1
      · have : ¬ y = x := fun h3 => h (h3.symm.trans h2)
        simp [h2, Ne.symm h]
      · simp [h2]
theorem kget_none {x : α} : ∀ {l : List (α × Value)}, kget x l = none ↔ ∀ p ∈ l, p.1 ≠ x
  | [] => by simp [kget]
  | p :: r => by
    simp only [kget]
    by_cases h : x = p.1
    · simp [h]
    · simp only [h, if_false, kget_none (l := r), List.forall_mem_cons]
      exact ⟨fun h2 => ⟨fun h3 => h h3.symm, h2⟩, fun h2 => h2.2⟩
theorem kput_keys (x : α) (v : Value) : ∀ l : List (α × Value), (kput x v l).map (·.1) = if x ∈ l.map (·.1) then l.map (·.1) else l.map (·.1) ++ [x]
  | [] => by simp [kput]
  | p :: r => by
    simp only [kput]
    by_cases h : x = p.1
    · simp [h]
    · simp only [h, if_false, List.map_cons, kput_keys x v r, List.mem_cons, false_or]
      split <;> simp
/-- The map in block r has these keys and values. -/
def MapAt (enc : α → Value) (k : PH) (r : Nat) (kv : List (α × Value)) : Prop :=
  ∃ (es : List (α × Value × Nat)) (cl : Nat), k r = some (.map (es.map (toE enc)).toArray cl) ∧ es.map (fun p => (p.1, p.2.1)) = kv ∧ (es.map (·.2.2)).Nodup ∧ ∀ p ∈ es, p.2.2 < cl
theorem MapAt.le {enc : α → Value} {k k' : PH} {r : Nat} {kv : List (α × Value)} (h : MapAt enc k r kv) (hl : Le k k') : MapAt enc k' r kv := by
  obtain ⟨es, cl, h1, h2⟩ := h
  exact ⟨es, cl, hl _ _ h1, h2⟩
theorem MapAt.new (enc : α → Value) {k : PH} {r : Nat} (h : k r = some (.map #[] 0)) : MapAt enc k r [] := ⟨[], 0, by simpa using h, rfl, by simp, by simp⟩
theorem look_kget (x : α) : ∀ (es : List (α × Value × Nat)) (i : Nat), (lookE x es i).map (·.2) = kget x (es.map fun p => (p.1, p.2.1))
  | [], i => rfl
  | p :: r, i => by
    simp only [lookE, List.map_cons, kget]
    by_cases h : x = p.1
    · simp [h]
    · simp only [h, if_false]
      exact look_kget x r (i + 1)
theorem atE_kget (x : α) (z : Value) (es : List (α × Value × Nat)) : atE x z es = (kget x (es.map fun p => (p.1, p.2.1))).getD z := by
  rw [← look_kget x es 0]
  unfold atE
  cases lookE x es 0 <;> rfl
theorem look_some (x : α) (es : List (α × Value × Nat)) : (lookE x es 0).isSome = (kget x (es.map fun p => (p.1, p.2.1))).isSome := by
  rw [← look_kget x es 0]
  cases lookE x es 0 <;> rfl
/-- What an update leaves. -/
theorem upd_kput (x : α) (v : Value) (es : List (α × Value × Nat)) (cl : Nat) (hn : (es.map (·.2.2)).Nodup) (hlt : ∀ p ∈ es, p.2.2 < cl) :
    ((updE x v es cl).1.map fun p => (p.1, p.2.1)) = kput x v (es.map fun p => (p.1, p.2.1)) ∧ ((updE x v es cl).1.map (·.2.2)).Nodup ∧ ∀ p ∈ (updE x v es cl).1, p.2.2 < (updE x v es cl).2 := by
  have key : ∀ (es : List (α × Value × Nat)) (i j : Nat) (u : Value), lookE x es i = some (j, u) → ((es.modify (j - i) (fun p => (p.1, v, p.2.2))).map fun p => (p.1, p.2.1)) = kput x v (es.map fun p => (p.1, p.2.1)) := by
    intro es
    induction es with
    | nil => intro i j u h; simp [lookE] at h
    | cons p r ih =>
      intro i j u h
      simp only [lookE] at h
      by_cases hx : x = p.1
      · rw [if_pos hx] at h
        cases h
        simp [kput, hx]
      · rw [if_neg hx] at h
        have hle := (lookE_mem h).1
        have := ih (i + 1) j u h
        rw [show j - i = (j - (i + 1)) + 1 by omega]
        simp only [List.modify_succ_cons, List.map_cons, kput, hx, if_false]
        rw [this]
  have key0 : ∀ (es : List (α × Value × Nat)), lookE x es 0 = none → ((es ++ [(x, v, cl)]).map fun p => (p.1, p.2.1)) = kput x v (es.map fun p => (p.1, p.2.1)) := by
    intro es h
    rw [lookE_none] at h
    induction es with
    | nil => rfl
    | cons p r ih =>
      have hp := h p (by simp)
      simp only [List.cons_append, List.map_cons, kput, Ne.symm hp, if_false]
      rw [← ih (fun q hq => h q (by simp [hq]))]
  unfold updE
  cases hl : lookE x es 0 with
  | none =>
    refine ⟨key0 es hl, ?_, fun p hp => ?_⟩
    · simp only [List.map_append, List.map_cons, List.map_nil]
      rw [List.nodup_append]
      refine ⟨hn, by simp, fun a ha b hb => ?_⟩
      obtain ⟨p, hp, rfl⟩ := List.mem_map.1 ha
      have := hlt p hp
      simp at hb
      omega
    · simp only [List.mem_append, List.mem_singleton] at hp
      rcases hp with hp | rfl
      · exact Nat.lt_succ_of_lt (hlt p hp)
      · exact Nat.lt_succ_self _
  | some q =>
    obtain ⟨j, u⟩ := q
    have h1 := key es 0 j u hl
    rw [Nat.sub_zero] at h1
    have h2 : (es.modify j (fun p => (p.1, v, p.2.2))).map (·.2.2) = es.map (·.2.2) := by
      apply List.ext_getElem?
      intro i
      simp only [List.getElem?_map, List.getElem?_modify]
      by_cases hij : j = i
      · subst hij
        cases es[j]? <;> simp
      · simp [hij]
    refine ⟨h1, by rw [h2]; exact hn, fun p hp => ?_⟩
    have : p.2.2 ∈ (es.modify j (fun p => (p.1, v, p.2.2))).map (·.2.2) := List.mem_map.2 ⟨p, hp, rfl⟩
    rw [h2] at this
    obtain ⟨p', hp', e⟩ := List.mem_map.1 this
    rw [← e]
    exact hlt p' hp'
variable {P : Program} {F : Fr} {n : Nat} {ops : Array Oper} {Q : Exit → Act → World → Prop} {rest : List Oper} {o : Oper} {e : Env} {k : PH} {kt : TypeId} {enc : α → Value}
/-- A look-up. -/
theorem d_look {t et : TypeId} {sz bs : Nat} {z : Value} {m key : Operand} {r : Nat} {x : α} {kv : List (α × Value)} [ht : TyU P t (.map kt et)] [hz : TyI P et sz bs z] [h : KeyOk P kt enc] (hk : MapAt enc k r kv) (hop : o.op = .lookup t m key false) (hmv : opv e m = some (.map (some r))) (hkv : opv e key = some (enc x)) : Det P e k o ((kget x kv).getD z) := by
  obtain ⟨es, cl, h1, rfl, _⟩ := hk
  have := d_lookup (P := P) (z := z) hop hmv hkv h1
  rw [atE_kget] at this
  exact this
theorem d_look_ok {t et : TypeId} {sz bs : Nat} {z : Value} {m key : Operand} {r : Nat} {x : α} {kv : List (α × Value)} [ht : TyU P t (.map kt et)] [hz : TyI P et sz bs z] [h : KeyOk P kt enc] (hk : MapAt enc k r kv) (hop : o.op = .lookup t m key true) (hmv : opv e m = some (.map (some r))) (hkv : opv e key = some (enc x)) : Det P e k o (.tuple #[(kget x kv).getD z, .bool (kget x kv).isSome]) := by
  obtain ⟨es, cl, h1, rfl, _⟩ := hk
  have := d_lookup_ok (P := P) (z := z) hop hmv hkv h1
  rw [atE_kget, look_some] at this
  exact this
theorem d_maplen {t kt' et : TypeId} {x : Operand} {r : Nat} {kv : List (α × Value)} [ht : TyU P t (.map kt' et)] (hk : MapAt enc k r kv) (hop : o.op = .call { callee := .builtin .len, args := #[x], argTypes := #[t] }) (hx : opv e x = some (.map (some r))) : Det P e k o (.int .i64 (kv.length : Int)) := by
  obtain ⟨es, cl, h1, rfl, _⟩ := hk
  have := d_len_map (P := P) hop hx h1
  simpa using this
/-- An update. -/
theorem r_put {t et : TypeId} {m key y : Operand} {r : Nat} {x : α} {v : Value} {kv : List (α × Value)} [h : KeyOk P kt enc] [ht : TyU P t (.map kt et)] (hk : MapAt enc k r kv) (hr : F.w0.heap.size ≤ r) (hd : o.dst = none) (hdet : det e = true) (hg : o.guard = none) (hop : o.op = .mapUpdate t m key y) (hmv : opv e m = some (.map (some r))) (hkv : opv e key = some (enc x)) (hyv : opv e y = some v)
    (hh : ∀ k', Turn1 k k' r → MapAt enc k' r (kput x v kv) → RG P F n ops Q rest e k') : RG P F n ops Q (o :: rest) e k := by
  obtain ⟨es, cl, h1, rfl, h2, h3⟩ := hk
  refine r_update (x := x) hd hdet hg hop hmv hkv hyv h1 hr ?_
  obtain ⟨g1, g2, g3⟩ := upd_kput x v es cl h2 h3
  exact hh _ (turn1_upd _ _ _) ⟨_, _, upd_same _ _ _, g1, g2, g3⟩
theorem MapAt.turn1 {k' : PH} {r b : Nat} {kv : List (α × Value)} (h : MapAt enc k r kv) (ht : Turn1 k k' b) (hne : r ≠ b) : MapAt enc k' r kv := by
  obtain ⟨es, cl, h1, h2⟩ := h
  exact ⟨es, cl, turn1_get ht hne h1, h2⟩
end
section
variable {P : Program} {o : Oper} {e : Env} {k : PH} {t t' kt et : TypeId} {x : Operand}
theorem d_min {ats : Array TypeId} {y : Operand} {a b : Int} (hop : o.op = .call { callee := .builtin .min, args := #[x, y], argTypes := ats }) (hx : opv e x = some (.int .i64 a)) (hy : opv e y = some (.int .i64 b)) : Det P e k o (.int .i64 (if b < a then b else a)) := by
  intro ev w hev _
  rw [hop] at hev
  have e1 := hev x (by simp [Op.operands, Call.operands]) _ hx
  have e2 := hev y (by simp [Op.operands, Call.operands]) _ hy
  simp [execOp, hop, resolve, invoke, builtin, e1, e2, run_min_int2]
theorem d_max {ats : Array TypeId} {y : Operand} {a b : Int} (hop : o.op = .call { callee := .builtin .max, args := #[x, y], argTypes := ats }) (hx : opv e x = some (.int .i64 a)) (hy : opv e y = some (.int .i64 b)) : Det P e k o (.int .i64 (if a < b then b else a)) := by
  intro ev w hev _
  rw [hop] at hev
  have e1 := hev x (by simp [Op.operands, Call.operands]) _ hx
  have e2 := hev y (by simp [Op.operands, Call.operands]) _ hy
  simp [execOp, hop, resolve, invoke, builtin, e1, e2, run_max_int2]
/-- A map, or a slice, held against nil. -/
theorem d_eqmap {r : Option Nat} [h : TyU P t (.map kt et)] (hop : o.op = .binOp .eql t x (.const (.map none)) t') (hx : opv e x = some (.map r)) : Det P e k o (.bool r.isNone) := by
  intro ev w hev _
  rw [hop] at hev
  have e1 := hev x (by simp [Op.operands]) _ hx
  have e2 := hev (.const (.map none)) (by simp [Op.operands]) _ rfl
  have g : (binOp .eql t (.map r) (.map none)).run P w = .ok (.bool r.isNone) w := by
    have := run_equalIn_map_nil (P := P) (w := w) 9999 t kt et r h.eq
    simp only [binOp, Op.equal, Op.maxDepth, Sem.run_bind, this, Result.andThen_ok, Sem.run_pure]
  simp [execOp, hop, e1, e2, eqGuard, g]
theorem d_nemap {r : Option Nat} [h : TyU P t (.map kt et)] (hop : o.op = .binOp .neq t x (.const (.map none)) t') (hx : opv e x = some (.map r)) : Det P e k o (.bool (!r.isNone)) := by
  intro ev w hev _
  rw [hop] at hev
  have e1 := hev x (by simp [Op.operands]) _ hx
  have e2 := hev (.const (.map none)) (by simp [Op.operands]) _ rfl
  simp [execOp, hop, e1, e2, eqGuard, run_neq_map_nil w t kt et r h.eq]
end
end Go.Wm

/-
  Literals of structs and slices: their cells as lists that Lean reckons by itself. Conditions: none.
-/
import Derived.Test.YtapfmndcjcdcjaaOps2
import Derived.KernelRfl
set_option linter.all false
namespace Go.Wm
open Go.RowKit

def splice (cs : List Value) (off : Nat) (vs : List Value) : List Value := cs.take off ++ vs ++ cs.drop (off + vs.length)
def fillS (place : Nat → Option (Nat × Nat)) : List Value → List (Nat × Value) → Option (List Value)
  | cs, [] => some cs
  | cs, (i, v) :: r => match place i with
    | none => none
    | some (off, size) => match Nat.beq v.cells.size size, Nat.ble (off + size) cs.length with
      | true, true => fillS place (splice cs off v.cells.toList) r
      | _, _ => none

theorem splice_set {α : Type} (l : List α) (i : Nat) (v : α) (r : List α) (h : i + 1 + r.length ≤ l.length) :
    (l.set i v).take (i + 1) ++ r ++ (l.set i v).drop (i + 1 + r.length) = l.take i ++ (v :: r) ++ l.drop (i + (r.length + 1)) := by
  have h1 : (l.set i v).take (i + 1) = l.take i ++ [v] := by
    rw [List.take_succ_eq_append_getElem (by simp; omega)]
    simp [List.take_set_of_le]
  have h2 : (l.set i v).drop (i + 1 + r.length) = l.drop (i + (r.length + 1)) := by
    rw [List.drop_set_of_lt (by omega)]
    congr 1
    omega
  rw [h1, h2]
  simp
theorem foldl_set (off : Nat) : ∀ (vs : List Value) (j : Nat) (cs : List Value), off + j + vs.length ≤ cs.length →
    (vs.zipIdx j).foldl (fun (a : Array Value) (p : Value × Nat) => a.setIfInBounds (off + p.2) p.1) cs.toArray = (cs.take (off + j) ++ vs ++ cs.drop (off + j + vs.length)).toArray
  | [], j, cs, h => by simp
  | v :: r, j, cs, h => by
    simp only [List.zipIdx_cons, List.foldl_cons, List.setIfInBounds_toArray]
    simp only [List.length_cons] at h
    rw [foldl_set off r (j + 1) _ (by simp; omega)]
    have := splice_set cs (off + j) v r (by omega)
    rw [show off + (j + 1) = off + j + 1 by omega, this]
    rfl
theorem fill_of (place : Nat → Option (Nat × Nat)) : ∀ (parts : List (Nat × Value)) (cs cs' : List Value), fillS place cs parts = some cs' → Instr.fill place cs.toArray parts = some cs'.toArray
  | [], cs, cs', h => by simp only [fillS, Option.some.injEq] at h; subst h; rfl
  | (i, v) :: r, cs, cs', h => by
    simp only [fillS] at h
    simp only [Instr.fill]
    split at h
    · cases h
    · rename_i off size hp
      split at h
      · rename_i h1 h2
        have e1 : v.cells.size = size := Nat.eq_of_beq_eq_true h1
        have e2 : off + size ≤ cs.length := Nat.le_of_ble_eq_true h2
        have ih := fill_of place r _ _ h
        have hn : ¬ (v.cells.size ≠ size ∨ off + v.cells.size > cs.toArray.size) := by simp; omega
        simp only [hp]
        rw [if_neg (by simpa using hn)]
        rw [← ih]
        congr 1
        have hf := foldl_set off v.cells.toList 0 cs (by simp; omega)
        unfold splice
        simp only [Nat.add_zero] at hf
        rw [← hf, ← Array.foldl_toList, Array.toList_zipIdx]
      · cases h

section
variable {P : Program} {n : Nat} {ops : Array Oper} {o : Oper} {e : Env} {k : PH}
theorem d_lit {t : TypeId} {places : List (Nat × Nat)} {zero : List Value} {parts : Array (Nat × Operand)} {vs cells : List Value} [h : Bld P t places zero] (hop : o.op = .build t parts) (hv : opvs e (parts.toList.map (·.2)) = some vs)
    (hf : fillS (places[·]?) zero ((parts.toList.map (·.1)).zip vs) = some cells) : Det P e k o (.agg cells.toArray) :=
  d_build hop hv (fill_of _ _ _ _ hf)
theorem a_slice {t et : TypeId} {len : Nat} {parts : Array (Nat × Operand)} {vs cells : List Value} {sz bs : Nat} {z : Value} [ht : TyU P t (.slice et)] [h : TyI P et sz bs z] (hop : o.op = .buildSlice t len parts)
    (hv : opvs e (parts.toList.map (·.2)) = some vs) (hle : Nat.ble (len * sz) 16777216 = true) (hpos : Nat.beq (len * sz) 0 = false) (hz : (madeCells z.cells (len * sz)).toList = (List.replicate len z.cells.toList).flatten)
    (hf : fillS (fun i => some (i * sz, sz)) (List.replicate len z.cells.toList).flatten ((parts.toList.map (·.1)).zip vs) = some cells) : Alc P e k o (fun b => .slice (some ⟨b, 0, none⟩) len len) (.cells cells.toArray et) := by
  refine a_buildSlice hop hv hle hpos ?_
  have := fill_of _ _ _ _ hf
  rw [← hz] at this
  simpa using this
end
end Go.Wm

/-
  Two more operations in a region that draws: a store over a whole block of the call's own; a call that makes the row that grows. Conditions: none beyond those of each law.
-/
import Derived.Test.YtbhgbfhgdccghaaGreatS9
import Derived.Test.YtbhgbfhgdccghaaGreatIns
import Derived.Test.YtbhgbfhgdccghaaGreatCoB
set_option linter.all false
namespace Go.Wm
variable [Dfr]
open Go.RowKit
/-- Behind the q-th append the slot d q holds the row of m q elements, of whose own block nothing else is known. -/
def XR (N et sz qe : Nat) (d m : Nat → Nat) (xs : Nat → List Value) : Nat → (Nat → Value) → PH → World → Prop := fun s tm k w =>
  N ≤ w.heap.size ∧ ∀ q, s = q + 1 → q ≤ qe → Row N (wPH w) et sz (tm (d q)) (m q) (xs q) ∧ LackV (tm (d q)) k w
/-- What is appended: j elements, whose cells are news, or none. -/
def Apn (k : PH) (u : Value) (j : Nat) (news : List Value) : Prop := (∃ bx ox c, u = .slice (some ⟨bx, ox, none⟩) j c ∧ Cells k bx ox news) ∨ (j = 0 ∧ news = [] ∧ ∃ a c, u = .slice a 0 c)
theorem Apn.le {k k' : PH} {u : Value} {j : Nat} {news : List Value} (h : Apn k u j news) (hl : Le k k') : Apn k' u j news := by
  rcases h with ⟨bx, ox, c, h1, h2⟩ | h
  · exact .inl ⟨bx, ox, c, h1, h2.le hl⟩
  · exact .inr h
section
variable {P : Program} {F : Fr} {n : Nat} {ops : Array Oper} {Q : Exit → Act → World → Prop} {rest : List Oper} {o : Oper} {e : Env} {k : PH}
/-- What the second operand of an append holds. -/
def YApn (e : Env) (k : PH) (y : Operand) (j : Nat) (news : List Value) : Prop := (∃ u, opv e y = some u ∧ Apn k u j news) ∨ ∃ ty φ, y = .tmp ty ∧ get e ty = some (.such φ) ∧ ∀ k1 u, Le k k1 → φ k1 u → Apn k1 u j news
end
end Go.Wm
namespace Go.Wm
variable [Dfr]
open Go.RowKit

section
variable {P : Program} {F : Fr} {n : Nat} {ops : Array Oper} {Q : Exit → Act → World → Prop} {o : Oper} {e : Env} {k : PH}
/-- A store over the whole of a block. -/
theorem effs_stoL {t : TypeId} {x y : Operand} {b sz bs j q : Nat} {z : Value} {vs : List Value} {c : Array Value} {et : TypeId} {kr : PH} {D : Nat → List (Nat × Obj)} [hi : TyI P t sz bs z] (hg : o.guard = none) (hop : o.op = .store t x y) (hx : opv e x = some (.pointer (some ⟨b, 0, none⟩))) (hy : opv e y = some (.agg vs.toArray))
    (hl : vs.length = sz) (h1 : ∀ u ∈ vs, u.oneCell' = true) (hc : c.size = vs.length) (h0 : (D q)[j]? = some (b, .cells c et (0, 0))) (hD : D (q + 1) = (D q).set j (b, .cells vs.toArray et (0, 0))) (hne : ∀ i p, (D q)[i]? = some p → i ≠ j → p.1 ≠ b) (hr : F.w0.heap.size ≤ b) :
    EffS P F n ops (XL D) q o e kr (.is undef) :=
  eff_turn hg h0 hD hne hr fun ev w hev hw => .inr ⟨by
    rw [hop] at hev
    have e1 := hev x (by simp [Op.operands]) _ hx
    have e2 := hev y (by simp [Op.operands]) _ hy
    obtain ⟨inf, hi1, hi2, _⟩ := hi.eq
    have hst := run_storeCells_at P b 0 et vs 0 c w hw (by omega) h1
    simp only [Nat.add_zero, Nat.zero_add] at hst
    have hrow : (c.toList.take 0 ++ vs ++ c.toList.drop vs.length).toArray = vs.toArray := by
      rw [List.drop_eq_nil_of_le (by simp; omega)]; simp
    have hrun : (execOp ev o).run P w = .ok .skip (w.setRow b vs.toArray) := by
      rw [← hrow]
      simp [execOp, hop, e1, e2, Instr.storeAt, Instr.sureAddr, storeVar, Value.cells, run_size hi1, hi2, hl, hst]
    rw [hrun]
    have hh : (w.setRow b vs.toArray).heap = w.heap.setIfInBounds b (.cells vs.toArray et (0, 0)) := by
      apply Array.ext_getElem?
      intro i
      by_cases hib : i = b
      · subst hib
        rw [setRow_heap w i c vs.toArray et (0, 0) hw, heap_setObj hw]
      · rw [setRow_other w b i _ hib, Array.getElem?_setIfInBounds, if_neg (Ne.symm hib)]
    rw [← hh]
    rfl, rfl⟩
end
end Go.Wm

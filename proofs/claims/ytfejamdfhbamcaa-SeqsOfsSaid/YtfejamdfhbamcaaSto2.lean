/-
  Two more operations in a region that draws: a store over a whole block of the call's own; a call that makes the row that grows. Conditions: none beyond those of each law.
-/
import Derived.Test.YtfejamdfhbamcaaRows3
import Derived.Test.YtfejamdfhbamcaaCoB
set_option linter.all false
namespace Go.Wm
variable [Dfr]
open Go.RowKit

section
variable {P : Program} {F : Fr} {n : Nat} {ops : Array Oper} {Q : Exit → Act → World → Prop} {o : Oper} {e : Env} {k : PH}
/-- A store over the whole of a block. -/
theorem effs_stoL {t : TypeId} {x y : Operand} {b sz bs j q : Nat} {z : Value} {vs : List Value} {c : Array Value} {et : TypeId} {kr : PH} {D : Nat → List (Nat × Obj)} [hi : TyI P t sz bs z] (hg : o.guard = none) (hop : o.op = .store t x y) (hx : opv e x = some (.pointer (some ⟨b, 0, none⟩))) (hy : opv e y = some (.agg vs.toArray))
    (hl : vs.length = sz) (h1 : ∀ u ∈ vs, u.oneCell' = true) (hc : c.size = vs.length) (h0 : (D q)[j]? = some (b, .cells c et (0, 0))) (hD : D (q + 1) = (D q).set j (b, .cells vs.toArray et (0, 0))) (hne : ∀ i p, (D q)[i]? = some p → i ≠ j → p.1 ≠ b) (hr : F.w0.heap.size ≤ b) :
    EffS P F n ops (XL D) q o e kr (.is undef) :=
  eff_turn hg h0 hD hne hr fun ev w hev hw => .inr ⟨by
    rw [hop] at hev
    have e1 := hev x (by simp [Op.operands]) _ hx
    have e2 := hev y (by simp [Op.operands]) _ hy
    obtain ⟨inf, hi1, hi2, _⟩ := hi.eq
    have hst := run_storeCells_at P b 0 et vs 0 c w hw (by omega) h1
    simp only [Nat.add_zero, Nat.zero_add] at hst
    have hrow : (c.toList.take 0 ++ vs ++ c.toList.drop vs.length).toArray = vs.toArray := by
      rw [List.drop_eq_nil_of_le (by simp; omega)]; simp
    have hrun : (execOp ev o).run P w = .ok .skip (w.setRow b vs.toArray) := by
      rw [← hrow]
      simp [execOp, hop, e1, e2, Instr.storeAt, Instr.sureAddr, storeVar, Value.cells, run_size hi1, hi2, hl, hst]
    rw [hrun]
    have hh : (w.setRow b vs.toArray).heap = w.heap.setIfInBounds b (.cells vs.toArray et (0, 0)) := by
      apply Array.ext_getElem?
      intro i
      by_cases hib : i = b
      · subst hib
        rw [setRow_heap w i c vs.toArray et (0, 0) hw, heap_setObj hw]
      · rw [setRow_other w b i _ hib, Array.getElem?_setIfInBounds, if_neg (Ne.symm hib)]
    rw [← hh]
    rfl, rfl⟩
/-- A call that makes the row that grows. -/
theorem effs_callR {qe et sz : Nat} {d m : Nat → Nat} {xs : Nat → List Value} {x : Operand} {args : Array Operand} {ats : Array TypeId} {g : FuncId} {first cap : Array Value} {vs : List Value} [FnOk P g]
    (hd : o.dst = some (d 0)) (hf : Nat.blt (d 0) n = true) (hg : o.guard = none) (hop : o.op = .call { callee := .value x, args := args, argTypes := ats }) (hx : opv e x = some (.func (.func g) first cap)) (ha : opvs e args.toList = some vs)
    (hct : CTN P g (first ++ vs.toArray ++ cap) k (fun N k' v => Row N k' et sz v (m 0) (xs 0))) :
    EffS P F n ops (XR F.w0.heap.size et sz qe d m xs) 0 o e k (.such fun _ _ => True) := by
  refine ⟨fun _ _ _ _ _ => trivial, hg, fun a w k1 hk hs hX hsz hlo => ?_⟩
  have hev := evs_of hlo
  have hrun := run_call (P := P) (w := w) hop hx ha hev
  refine (ex_enter (φ := fun v w' => ∃ k', Below w.heap.size w w' ∧ Sub k' w' ∧ Row w.heap.size k' et sz v (m 0) (xs 0)) hrun ((hct w k1 hk hs.sub).mono fun e w' ⟨v, k', he, hbel, hagr, hsub, hrow⟩ => ⟨v, he, k', hbel, hsub, hrow⟩)) |>.mono ?_
  rintro u w' ⟨k', hbel, hsub, hrow⟩
  have hs' := hs.below hbel
  refine ⟨k1, Le.refl _, hs', ⟨hs'.size, fun q hq _ => ?_⟩, trivial⟩
  have : q = 0 := by omega
  subst this
  have et' : tmsOf (a.put o.dst u) (d 0) = u := by rw [hd]; exact put_getD_same (by rw [hsz]; simpa [Nat.blt_eq] using hf)
  rw [et']
  refine ⟨(hrow.at fun g hg => ?_).N_le hs.size, fun g hg => ?_⟩
  · obtain ⟨_, ob, hob⟩ := hrow.block hg
    rw [hob]; exact hsub g ob hob
  · obtain ⟨hN, ob, hob⟩ := hrow.block hg
    exact ⟨hs.sub.none hN, hsub.lt hob⟩
end
end Go.Wm

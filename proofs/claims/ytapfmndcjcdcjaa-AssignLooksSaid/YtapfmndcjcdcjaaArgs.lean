/-
  Arguments of a law as this calculus reads them, over any program. Conditions: none.
-/
import Derived.Test.YtapfmndcjcdcjaaRead
set_option linter.all false
namespace Go.Wm
open Go.RowKit Go.ChangeShapes Go.WideShapes
section
variable {P : Program}
theorem garg_sl {t e : TypeId} {α : Type} {T : Ty α} [h : Rd P t (tSl T)] (ht : P.underlying t = some (.slice e)) {H : Type} {enc : TypeId × Value → H} {W : World} {base : Nat} {v : Value} {d : DataW H} {p : List MemPlace} (hv : Value.okWide P W .any base t v) (hr : DataW.Trod enc P W 0 (fun _ => true) true t v d p) :
    ∃ a c xs, v = .slice a xs.length c ∧ Sl T (heapOf W) a c xs := by
  obtain ⟨a0, len, cap, rfl⟩ := okWide_slice ht hv
  obtain ⟨n, hn⟩ := hr
  obtain ⟨xs, a, c, hcs, hsl⟩ := h.rd hn
  simp [Value.cells] at hcs
  exact ⟨a, c, xs, by rw [hcs.1, hcs.2.1, hcs.2.2], hsl⟩
theorem garg_str {t : TypeId} (ht : P.underlying t = some .string) {H : Type} {enc : TypeId × Value → H} {W : World} {base : Nat} {v : Value} {d : DataW H} {p : List MemPlace} (hv : Value.okWide P W .any base t v) (hr : DataW.Trod enc P W 0 (fun _ => true) true t v d p) :
    ∃ s, v = .string s ∧ s.size ≤ maxLen := by
  obtain ⟨s, rfl⟩ := okWide_string ht hv
  obtain ⟨n, hn⟩ := hr
  obtain ⟨s', e0, _, hs⟩ := DataW.trod_string ht hn
  simp [Value.cells] at e0
  subst e0
  exact ⟨_, rfl, hs⟩
theorem garg_int {t : TypeId} (ht : P.underlying t = some (.int .i64)) {H : Type} {enc : TypeId × Value → H} {W : World} {base : Nat} {v : Value} {d : DataW H} {p : List MemPlace} (hv : Value.okWide P W .any base t v) (hr : DataW.Trod enc P W 0 (fun _ => true) true t v d p) :
    ∃ x, v = .int .i64 x ∧ I64 x := by
  obtain ⟨x, rfl⟩ := okWide_int ht hv
  obtain ⟨n, hn⟩ := hr
  obtain ⟨a, e0, hw⟩ := DataW.trod_int ht hn
  simp [Value.cells] at e0
  subst e0
  exact ⟨_, rfl, wf_I64 hw.2⟩
theorem garg_bool {t : TypeId} (ht : P.underlying t = some .bool) {W : World} {base : Nat} {v : Value} (hv : Value.okWide P W .any base t v) : ∃ x, v = .bool x := okWide_bool ht hv
/-- A struct. -/
theorem garg_agg {t : TypeId} {fs : Array Field} {α : Type} {T : Ty α} [h : Rd P t T] (ht : P.underlying t = some (.struct fs)) {H : Type} {enc : TypeId × Value → H} {W : World} {base : Nat} {v : Value} {d : DataW H} {p : List MemPlace} (hv : Value.okWide P W .any base t v) (hr : DataW.Trod enc P W 0 (fun _ => true) true t v d p) :
    ∃ cs x, v = .agg cs ∧ T.rep (heapOf W) cs.toList x := by
  obtain ⟨cs, rfl, _⟩ := okWide_struct ht hv
  obtain ⟨n, hn⟩ := hr
  obtain ⟨x, hx⟩ := h.rd hn
  exact ⟨cs, x, rfl, hx⟩
/-- The walk of a law: it returns true, and turns nothing that was there. -/
theorem gwalk_of_ct {f : FuncId} {args : Array Value} {W : World} (h : CT P f args (heapOf W) (fun _ v => v = .bool true)) : Calls P f args W fun e W' => e = .returned (.bool true) ∧ Below W.heap.size W W' :=
  (h W (heapOf W) (Le.refl _) (sub_heapOf W)).mono fun e W' ⟨v, k', h1, h2, _, _, h5⟩ => ⟨by rw [h1, h5], h2⟩
end
end Go.Wm

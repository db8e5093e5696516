/-
  What the form's own reach says of what is read: no list takes more bytes than there is room for. Conditions: none.
-/
import Derived.Test.YtapfmndcjcdcjaaArgs
import Derived.HandedShaped
set_option linter.all false
namespace Go.Wm
open Go.RowKit Go.ChangeShapes Go.WideShapes
/-- As 'Rd', and what the reach says of the data. -/
class RdW (P : Program) (t : TypeId) {α : Type} (T : Ty α) (B : outParam (α → Prop)) : Prop where
  one : P.cellsOf t = T.sz
  rd : ∀ {H : Type} {enc : TypeId × Value → H} {W : World} {base : Nat} {held : Bool} {n : Nat} {cs : List Value} {y : DataW H × List MemPlace}, DataW.trod enc P W base (fun _ => true) held n t cs = some y →
    (∀ q ∈ y.1.weights P t, q ≤ reachBytes) → ∃ x, T.rep (heapOf W) cs x ∧ B x
section
variable {P : Program}
theorem rdw_plain {t : TypeId} {α : Type} {T : Ty α} [h : Rd P t T] : RdW P t T (fun _ => True) where
  one := h.one
  rd := fun hr _ => by
    obtain ⟨x, hx⟩ := h.rd hr
    exact ⟨x, hx, trivial⟩
theorem weightsAll_mem {H : Type} {e : TypeId} {d : DataW H} {q : Nat} : ∀ {l : List (DataW H)}, d ∈ l → q ∈ d.weights P e → q ∈ DataW.weightsAll P e l
  | [], h, _ => by cases h
  | x :: r, h, hq => by
    rw [DataW.weightsAll]
    rcases List.mem_cons.1 h with rfl | h
    · exact List.mem_append.2 (.inl hq)
    · exact List.mem_append.2 (.inr (weightsAll_mem h hq))
theorem rdw_slice {t e : TypeId} {α : Type} {T : Ty α} {B : α → Prop} (h : P.underlying t = some (.slice e)) (h1 : P.cellsOf t = 1) (hpos : 0 < T.sz) [he : RdW P e T B] : RdW P t (tSl T) (fun xs => xs.length * P.bytesOf e ≤ reachBytes ∧ ∀ x ∈ xs, B x) where
  one := h1
  rd := by
    intro H enc W base held n cs y hr hwt
    rcases Deep.open_slice h hr with ⟨rfl, _⟩ | ⟨a, len, cap, m, nn, D, Pl, rfl, _, hlc, hcm, hm, hy, hel⟩
    · exact ⟨[], ⟨none, 0, rfl, by simp, by simp [maxLen], fun _ => rfl, by simp, by simp⟩, by simp, by simp⟩
    · subst hy
      simp only [DataW.weights, h] at hwt
      have hlm : len ≤ m := by rw [hm]; split <;> omega
      have hlen : len * P.bytesOf e ≤ reachBytes := by
        have := hwt _ (List.mem_cons.2 (.inl rfl))
        simp only [List.length_map, List.length_range] at this
        exact Nat.le_trans (Nat.mul_le_mul_right _ (by omega)) this
      have hx : ∀ i, i < len → ∃ x cs', W.cells? base (a.add (i * T.sz)) T.sz = some cs' ∧ T.rep (heapOf W) cs' x ∧ B x := by
        intro i hi
        obtain ⟨cs', hc, ht⟩ := hel i (by omega)
        obtain ⟨x, hx, hb⟩ := he.rd ht fun q hq => hwt q (List.mem_cons.2 (.inr (List.mem_append.2 (.inl (weightsAll_mem (List.mem_map.2 ⟨i, by simpa using hi, rfl⟩) hq)))))
        rw [he.one] at hc
        exact ⟨x, cs', hc, hx, hb⟩
      have hall : ∃ xs : List α, xs.length = len ∧ (∀ x ∈ xs, B x) ∧ ∀ i x, xs[i]? = some x → ∃ cs', W.cells? base (a.add (i * T.sz)) T.sz = some cs' ∧ T.rep (heapOf W) cs' x := by
        have : ∀ q, q ≤ len → ∃ xs : List α, xs.length = q ∧ (∀ x ∈ xs, B x) ∧ ∀ i x, xs[i]? = some x → ∃ cs', W.cells? base (a.add (i * T.sz)) T.sz = some cs' ∧ T.rep (heapOf W) cs' x := by
          intro q
          induction q with
          | zero => intro _; exact ⟨[], rfl, by simp, by simp⟩
          | succ q ih =>
            intro hq
            obtain ⟨xs, hl, hbs, hxs⟩ := ih (by omega)
            obtain ⟨x, cs', hc, hr, hb⟩ := hx q (by omega)
            refine ⟨xs ++ [x], by simp [hl], fun y hy => ?_, fun i y hy => ?_⟩
            · rcases List.mem_append.1 hy with hy | hy
              · exact hbs y hy
              · simp at hy; rw [hy]; exact hb
            by_cases hi : i < q
            · rw [List.getElem?_append_left (by omega)] at hy
              exact hxs i y hy
            · rw [List.getElem?_append_right (by omega)] at hy
              have : i = q := by
                have := (List.getElem?_eq_some_iff.1 hy).1
                simp at this
                omega
              subst this
              simp [hl] at hy
              subst hy
              exact ⟨cs', hc, hr⟩
        exact this len (Nat.le_refl _)
      obtain ⟨xs, hl, hbs, hxs⟩ := hall
      subst hl
      have hspot : ∀ i, i < xs.length → a.spot = none := by
        intro i hi
        obtain ⟨cs', hc, hr⟩ := hxs 0 xs[0] (List.getElem?_eq_getElem (by omega))
        have := (cells_of_read hc hpos).1
        simpa [Addr.add] using this
      by_cases h0 : xs.length = 0
      · have : xs = [] := List.length_eq_zero_iff.1 h0
        subst this
        refine ⟨[], ⟨some a, cap, rfl, by simp, hcm, by simp, fun hc ad h => ?_, by simp⟩, by simp, by simp⟩
        cases h
        obtain ⟨cs', hc', _⟩ := hel 0 (by rw [hm]; simpa using hc)
        rw [he.one] at hc'
        have := (cells_of_read hc' hpos).1
        simpa [Addr.add] using this
      · refine ⟨xs, ⟨some a, cap, rfl, hlc, hcm, by simp, fun _ ad h => by cases h; exact hspot 0 (by omega), fun i x hx' => ?_⟩, hlen, hbs⟩
        have hi : i < xs.length := (List.getElem?_eq_some_iff.1 hx').1
        obtain ⟨b, off, spot⟩ := a
        have hs := hspot i hi
        simp only at hs
        subst hs
        obtain ⟨cs', hc, hr⟩ := hxs i x hx'
        refine ⟨b, off, cs', rfl, hr, ?_⟩
        have := (cells_of_read hc hpos).2 (off + i * T.sz) (fun j hj => by rw [addr_add, addr_add])
        rw [addr_add] at this
        exact this
/-- One argument that is a slice, and its bound. -/
theorem wgarg_sl {t e : TypeId} {α : Type} {T : Ty α} {B : List α → Prop} [h : RdW P t (tSl T) B] (ht : P.underlying t = some (.slice e)) {H : Type} {enc : TypeId × Value → H} {W : World} {base : Nat} {v : Value} {d : DataW H} {p : List MemPlace} (hv : Value.okWide P W .any base t v) (hr : DataW.Trod enc P W 0 (fun _ => true) true t v d p)
    (hw : ∀ q ∈ d.weights P t, q ≤ reachBytes) : ∃ a c xs, v = .slice a xs.length c ∧ Sl T (heapOf W) a c xs ∧ B xs := by
  obtain ⟨a0, len, cap, rfl⟩ := okWide_slice ht hv
  obtain ⟨n, hn⟩ := hr
  obtain ⟨xs, ⟨a, c, hcs, hsl⟩, hb⟩ := h.rd hn hw
  simp [Value.cells] at hcs
  exact ⟨a, c, xs, by rw [hcs.1, hcs.2.1, hcs.2.2], hsl, hb⟩
theorem weightsEach_cons {H : Type} {t : TypeId} {ts : List TypeId} {d : DataW H} {ds : List (DataW H)} (h : (DataW.weightsEach P (t :: ts) (d :: ds)).all (fun q => decide (q ≤ reachBytes)) = true) : (∀ q ∈ d.weights P t, q ≤ reachBytes) ∧ (DataW.weightsEach P ts ds).all (fun q => decide (q ≤ reachBytes)) = true := by
  rw [DataW.weightsEach, List.all_append, Bool.and_eq_true] at h
  refine ⟨fun q hq => ?_, h.2⟩
  have := List.all_eq_true.1 h.1 q hq
  simpa using this
end
end Go.Wm

/-
  From the form's own reading of arguments to this seat's reading of memory, and the last step of a law's row. Conditions: none.
-/
import Derived.Test.YtapfmndcjcdcjaaRep
import Derived.ProofKit
import Derived.OpenShut
import Derived.Deep.Slices
import Derived.Deep.Fields
import Derived.Carry
set_option linter.all false
namespace Go.Wm
open Go.RowKit Go.ChangeShapes Go.WideShapes

def heapOf (w : World) : PH := fun b => w.heap[b]?
theorem sub_heapOf (w : World) : Sub (heapOf w) w := fun _ _ h => h

/-- Whatever reads as a value of type t reads by T. -/
class Rd (P : Program) (t : TypeId) {α : Type} (T : Ty α) : Prop where
  one : P.cellsOf t = T.sz
  rd : ∀ {H : Type} {enc : TypeId × Value → H} {W : World} {base : Nat} {held : Bool} {n : Nat} {cs : List Value} {y : DataW H × List MemPlace}, DataW.trod enc P W base (fun _ => true) held n t cs = some y → ∃ x, T.rep (heapOf W) cs x

section
variable {P : Program}
theorem wf_I64 {n : Int} (h : (Lit.int .i64 n).wf = true) : I64 n := by
  simp [Lit.wf, IntKind.min, IntKind.max, IntKind.signed, IntKind.bits] at h
  exact h
theorem rd_int {t : TypeId} (h : P.underlying t = some (.int .i64)) (h1 : P.cellsOf t = 1) : Rd P t tInt where
  one := h1
  rd := fun hr => by
    obtain ⟨n, rfl, _, hw⟩ := DataW.trod_int h hr
    exact ⟨n, rfl, wf_I64 hw⟩
theorem rd_bool {t : TypeId} (h : P.underlying t = some .bool) (h1 : P.cellsOf t = 1) : Rd P t tBool where
  one := h1
  rd := fun hr => by
    obtain ⟨n, rfl, _⟩ := DataW.trod_bool h hr
    exact ⟨n, rfl⟩
theorem rd_str {t : TypeId} (h : P.underlying t = some .string) (h1 : P.cellsOf t = 1) : Rd P t tStr where
  one := h1
  rd := fun hr => by
    obtain ⟨n, rfl, _, hs⟩ := DataW.trod_string h hr
    exact ⟨n, rfl, hs⟩

theorem cells_of_read {w : World} {base : Nat} {a : Addr} {n : Nat} {cs : List Value} (h : w.cells? base a n = some cs) (hpos : 0 < n) : a.spot = none ∧ ∀ off, (∀ i, i < n → w.cell? (a.add i) = w.cell? ⟨a.block, off + i, none⟩) → Cells (heapOf w) a.block off cs := by
  obtain ⟨_, hl, hc⟩ := World.cells?_some h
  have h0 := hc 0 hpos
  have hsome : (cs[0]?).isSome := by simp; omega
  obtain ⟨v, hv⟩ := Option.isSome_iff_exists.1 hsome
  rw [hv] at h0
  have hsp : a.spot = none := by simpa [Addr.add] using World.cell?_spot h0
  refine ⟨hsp, fun off ho => ?_⟩
  have h00 := ho 0 hpos
  rw [h0] at h00
  simp only [World.cell?] at h00
  cases hb : w.heap[a.block]? with
  | none => simp [hb] at h00
  | some ob =>
    cases ob <;> simp [hb] at h00
    rename_i c et fr
    refine ⟨c, et, fr, hb, fun i u hu => ?_⟩
    have hi : i < n := by rw [← hl]; exact (List.getElem?_eq_some_iff.1 hu).1
    have h1 := ho i hi
    rw [hc i hi, hu] at h1
    simp only [World.cell?, hb, Option.isSome_none, Bool.false_eq_true, if_false] at h1
    exact h1.symm

theorem rd_slice {t e : TypeId} {α : Type} {T : Ty α} (h : P.underlying t = some (.slice e)) (h1 : P.cellsOf t = 1) (hpos : 0 < T.sz) [he : Rd P e T] : Rd P t (tSl T) where
  one := h1
  rd := by
    intro H enc W base held n cs y hr
    rcases Deep.open_slice h hr with ⟨rfl, _⟩ | ⟨a, len, cap, m, nn, D, Pl, rfl, _, hlc, hcm, hm, _, hel⟩
    · exact ⟨[], none, 0, rfl, by simp, by simp [maxLen], fun _ => rfl, by simp, by simp⟩
    · have hlm : len ≤ m := by rw [hm]; split <;> omega
      have hx : ∀ i, i < len → ∃ x cs', W.cells? base (a.add (i * T.sz)) T.sz = some cs' ∧ T.rep (heapOf W) cs' x := by
        intro i hi
        obtain ⟨cs', hc, ht⟩ := hel i (by omega)
        obtain ⟨x, hx⟩ := he.rd ht
        rw [he.one] at hc
        exact ⟨x, cs', hc, hx⟩
      have hall : ∃ xs : List α, xs.length = len ∧ ∀ i x, xs[i]? = some x → ∃ cs', W.cells? base (a.add (i * T.sz)) T.sz = some cs' ∧ T.rep (heapOf W) cs' x := by
        have : ∀ q, q ≤ len → ∃ xs : List α, xs.length = q ∧ ∀ i x, xs[i]? = some x → ∃ cs', W.cells? base (a.add (i * T.sz)) T.sz = some cs' ∧ T.rep (heapOf W) cs' x := by
          intro q
          induction q with
          | zero => intro _; exact ⟨[], rfl, by simp⟩
          | succ q ih =>
            intro hq
            obtain ⟨xs, hl, hxs⟩ := ih (by omega)
            obtain ⟨x, cs', hc, hr⟩ := hx q (by omega)
            refine ⟨xs ++ [x], by simp [hl], fun i y hy => ?_⟩
            by_cases hi : i < q
            · rw [List.getElem?_append_left (by omega)] at hy
              exact hxs i y hy
            · rw [List.getElem?_append_right (by omega)] at hy
              have : i = q := by
                have := (List.getElem?_eq_some_iff.1 hy).1
                simp at this
                omega
              subst this
              simp [hl] at hy
              subst hy
              exact ⟨cs', hc, hr⟩
        exact this len (Nat.le_refl _)
      obtain ⟨xs, hl, hxs⟩ := hall
      subst hl
      have hspot : ∀ i, i < xs.length → a.spot = none := by
        intro i hi
        obtain ⟨cs', hc, hr⟩ := hxs 0 xs[0] (List.getElem?_eq_getElem (by omega))
        have := (cells_of_read hc hpos).1
        simpa [Addr.add] using this
      by_cases h0 : xs.length = 0
      · have : xs = [] := List.length_eq_zero_iff.1 h0
        subst this
        refine ⟨[], some a, cap, rfl, by simp, hcm, by simp, fun hc ad h => ?_, by simp⟩
        cases h
        obtain ⟨cs', hc', _⟩ := hel 0 (by rw [hm]; simpa using hc)
        rw [he.one] at hc'
        have := (cells_of_read hc' hpos).1
        simpa [Addr.add] using this
      · refine ⟨xs, some a, cap, rfl, hlc, hcm, by simp, fun _ ad h => by cases h; exact hspot 0 (by omega), fun i x hx' => ?_⟩
        have hi : i < xs.length := (List.getElem?_eq_some_iff.1 hx').1
        obtain ⟨b, off, spot⟩ := a
        have hs := hspot i hi
        simp only at hs
        subst hs
        obtain ⟨cs', hc, hr⟩ := hxs i x hx'
        refine ⟨b, off, cs', rfl, hr, ?_⟩
        have := (cells_of_read hc hpos).2 (off + i * T.sz) (fun j hj => by rw [addr_add, addr_add])
        rw [addr_add] at this
        exact this

/-- A struct's cells, one a field. -/
theorem struct_cells {t : TypeId} {fts : List TypeId} (hs : P.underlying t = some (.struct (P.fieldsOf t))) (hc : P.cellsOf t = fts.length) (hf : ((P.fieldsOf t).toList.map fun f => (f.offset, f.type, P.cellsOf f.type)) = (List.range fts.length).zipWith (fun i ft => (i, ft, 1)) fts)
    {H : Type} {enc : TypeId × Value → H} {W : World} {base : Nat} {held : Bool} {n : Nat} {cs : List Value} {y : DataW H × List MemPlace} (h : DataW.trod enc P W base (fun _ => true) held n t cs = some y) :
    ∃ m, cs.length = fts.length ∧ ∀ (j : Nat) (ft : TypeId) (v : Value), fts[j]? = some ft → cs[j]? = some v → ∃ z, DataW.trod enc P W base (fun _ => true) held m ft [v] = some z := by
  obtain ⟨xs, m, _, _, hl, hxl, hel⟩ := DataW.trod_struct hs h
  refine ⟨m, hl.trans hc, fun j ft v hj hv => ?_⟩
  have hlt : j < fts.length := (List.getElem?_eq_some_iff.1 hj).1
  have := congrArg (fun l => l[j]?) hf
  simp only [List.getElem?_map, List.getElem?_zipWith, List.getElem?_range hlt, hj] at this
  cases hfd : (P.fieldsOf t).toList[j]? with
  | none => simp [hfd] at this
  | some f =>
    simp only [hfd, Option.map_some, Option.some.injEq, Prod.mk.injEq] at this
    obtain ⟨e1, e2, e3⟩ := this
    have h1 := hel j f (by simpa using hfd)
    rw [e1, e3, e2] at h1
    have hlt2 : j < cs.length := by rw [hl, hc]; exact hlt
    have : (cs.drop j).take 1 = [v] := by
      rw [List.drop_eq_getElem_cons hlt2]
      rw [List.getElem?_eq_getElem hlt2] at hv
      simp at hv
      simp [hv]
    rw [this] at h1
    have hjx : j < xs.length := by
      rw [hxl]
      have := (List.getElem?_eq_some_iff.1 hfd).1
      simpa using this
    exact ⟨xs[j], by rw [h1]; exact List.getElem?_eq_getElem hjx⟩

/-! ### the end of a law's row -/
theorem trodAll_below {H : Type} {enc : TypeId × Value → H} {W W' : World} (hl : laidOutB P = true) (hb : Below W.heap.size W W') : ∀ (ts : List TypeId) (vs : List Value) (ds : List (DataW H)) (ps : List MemPlace), (ts.all fun t => P.readableRec t && decide (t < P.types.size)) = true →
    DataW.TrodAll enc P W 0 (fun _ => true) true ts vs ds ps → (∀ x ∈ ps, x.block < W.heap.size) → DataW.TrodAll enc P W' 0 (fun b => decide (b < W.heap.size)) true ts vs ds ps
  | [], vs, ds, ps, _, h, _ => by
    obtain ⟨rfl, rfl, rfl⟩ := trodAll_nil h
    exact trodAll_mk0
  | t :: ts, vs, ds, ps, hr, h, hlt => by
    obtain ⟨v, vs', d, ds', p, q, rfl, rfl, rfl, h0, h1⟩ := trodAll_cons h
    simp only [List.all_cons, Bool.and_eq_true, decide_eq_true_eq] at hr
    exact trodAll_cons_mk (Below.trod hl hr.1.1 hr.1.2 h0 hb (fun x hx => hlt x (by simp [hx]))) (trodAll_below hl hb ts vs' ds' q hr.2 h1 (fun x hx => hlt x (by simp [hx])))
end
end Go.Wm

/-
  A region that draws, makes a block and stores over it what a slot holds. Conditions: the region's own order, Bools that the kernel reckons.
-/
import Derived.Test.YtbhgbfhgdccghaaK7
import Derived.Test.YtbhgbfhgdccghaaCoB
import Derived.Test.YtbhgbfhgdccghaaSto2
import Derived.Test.YtbhgbfhgdccghaaN8
set_option linter.all false
namespace Go.Wm
open Go.RowKit Go.Proofs
def runW (l : List Member) (tps : List Tp) : Nat → List Int → Option (List Int)
  | 0, _ => none
  | n + 1, w => match stepM l tps w with
    | none => some w
    | some w' => runW l tps n w'
theorem runW_moved {l : List Member} {tps : List Tp} {a : List Int} : ∀ {n : Nat} {w w0 : List Int}, Moved l tps a w → runW l tps n w = some w0 → Moved l tps a w0 ∧ stepM l tps w0 = none
  | 0, w, w0, hm, h => by cases h
  | n + 1, w, w0, hm, h => by
    unfold runW at h
    cases hs : stepM l tps w with
    | none => rw [hs] at h; cases h; exact ⟨hm, hs⟩
    | some w' => rw [hs] at h; exact runW_moved (.step hm hs) h
theorem sync_val {g : Group} {id : ByteArray} {gen now : Int} {tps : List Tp} {x : Group} {own : List Tp} {e : Int} (h : SyncR g id gen now tps x own e) (hz : syncE g id gen now tps = 0) {n : Nat} {w0 : List Int} (hr : runW g.l tps n (fillW g.l tps (wInit g.l tps) tps.length) = some w0) :
    own = gotS g.l tps w0 (posF (byId id) g.l) ∧ x = { g with l := setAt (posF (byId id) g.l) (setOwn (gotS g.l tps w0 (posF (byId id) g.l)) now) g.l } ∧ e = 0 := by
  obtain ⟨w, h1, h2, h3, h4⟩ := h.yes hz
  obtain ⟨m1, m2⟩ := runW_moved (.refl _) hr
  have : w = w0 := h1.moved.same m1 h1.still m2
  subst this
  exact ⟨h2, by rw [h3, h2], h4⟩
def tG : ByteArray := ⟨#[103]⟩
def tA : ByteArray := ⟨#[97]⟩
def tB : ByteArray := ⟨#[98]⟩
def tC : ByteArray := ⟨#[99]⟩
def tT : ByteArray := ⟨#[116]⟩
def tN : ByteArray := ⟨#[]⟩
def xP0 : Tp := ⟨tT, 0, 0⟩
def xP1 : Tp := ⟨tT, 1, 0⟩
def xBoth : List Tp := [xP0, xP1]
def xm (id : ByteArray) (own : List Tp) : Member := ⟨id, tN, [tT], own, false, 0⟩
def xg0 : Group := ⟨tG, 0, 0, []⟩
def xga : Group := ⟨tG, 1, 2, [⟨tA, tN, [tT], [], true, 1⟩]⟩
def xgb : Group := ⟨tG, 1, 2, [⟨tA, tN, [tT], xBoth, true, 2⟩]⟩
def xgc : Group := ⟨tG, 2, 1, [⟨tA, tN, [tT], xBoth, false, 2⟩, ⟨tB, tN, [tT], [], true, 3⟩]⟩
def xgd : Group := ⟨tG, 2, 2, [⟨tA, tN, [tT], xBoth, true, 5⟩, ⟨tB, tN, [tT], [], true, 3⟩]⟩
def xgx : Group := ⟨tG, 2, 2, [⟨tA, tN, [tT], [xP1], true, 7⟩, ⟨tB, tN, [tT], [], true, 3⟩]⟩
set_option maxRecDepth 100000
theorem ex_new : newG tG = (xg0, 0) := by decide +kernel
theorem ex_a : joinG xg0 (xm tA []) 1 = (xga, 0) := by decide +kernel
theorem ex_c : joinG xgb (xm tB []) 3 = (xgc, 0) := by decide +kernel
theorem ex_k : (beatG xgc tA 1 4).2 = 232 := by decide +kernel
theorem ex_d : joinG xgc (xm tA xBoth) 5 = (xgd, 0) := by decide +kernel
theorem ex_b {x : Group} {own : List Tp} {e : Int} (h : SyncR xga tA 1 2 xBoth x own e) : x = xgb ∧ own = xBoth ∧ e = 0 := by
  obtain ⟨h1, h2, h3⟩ := sync_val h (by decide +kernel) (n := 3) (w0 := [0, 0]) (by decide +kernel)
  exact ⟨h2.trans (by decide +kernel), h1.trans (by decide +kernel), h3⟩
theorem ex_f {x : Group} {own : List Tp} {e : Int} (h : SyncR xgd tB 2 6 xBoth x own e) : own = [] ∧ e = 0 := by
  obtain ⟨h1, h2, h3⟩ := sync_val h (by decide +kernel) (n := 3) (w0 := [1, 0]) (by decide +kernel)
  exact ⟨h1.trans (by decide +kernel), h3⟩
theorem ex_x {x : Group} {own : List Tp} {e : Int} (h : SyncR xgd tA 2 7 xBoth x own e) : x = xgx ∧ own.length = 1 ∧ e = 0 := by
  obtain ⟨h1, h2, h3⟩ := sync_val h (by decide +kernel) (n := 3) (w0 := [1, 0]) (by decide +kernel)
  exact ⟨h2.trans (by decide +kernel), by rw [h1]; decide +kernel, h3⟩
theorem ex_y {x : Group} {own : List Tp} {e : Int} (h : SyncR xgx tB 2 8 xBoth x own e) : own.length = 1 ∧ e = 0 := by
  obtain ⟨h1, h2, h3⟩ := sync_val h (by decide +kernel) (n := 3) (w0 := [1, 0]) (by decide +kernel)
  exact ⟨by rw [h1]; decide +kernel, h3⟩
theorem ex_f1 : fenceG xgd tA 1 = 231 := by decide +kernel
theorem ex_f2 : fenceG xgd tA 2 = 0 := by decide +kernel
theorem ex_f3 : fenceG xgd tC 2 = 230 := by decide +kernel
theorem ex_chk : chkG xgd = 0 := by decide +kernel
end Go.Wm
namespace Go.Wm
variable [Dfr]
open Go.RowKit
section
variable {P : Program} {o : Oper} {e : Env} {k : PH}
/-- What is worked out of what a slot holds. -/
theorem loci_pure {n : Nat} {ops : Array Oper} {I : PH → World → Prop} {t : Nat} {φ ψ : PH → Value → Prop} (hg : get e t = some (.such φ)) (ht : (o.looksAt ops).contains t = true) (hgd : o.guard = none) (hm : (PV.such ψ).Mono) (h : ∀ v k1, Le k k1 → φ k1 v → ∃ u, peval ((t, .is v) :: e) o.op = some u ∧ ψ k1 u) : LocI P n ops I o e k (.such ψ) := by
  refine LocI.elim t hg ht hm fun v k1 hle hv => ?_
  obtain ⟨u, h1, h2⟩ := h v k1 hle hv
  have hl : Loc P n ops o ((t, .is v) :: e) k1 (.is u) := loc_det (by simp [wantedE, hgd]) (d_pure h1)
  refine ⟨hm, fun a w k2 hk hs _ hsz hlo => ?_⟩
  have := hl.2 a w k2 hk hs hsz hlo
  split
  · rename_i hw
    rw [if_pos hw] at this
    refine this.mono fun q w' ⟨k', g1, g2, g3, g4⟩ => ⟨k', g1, g2, g3, ?_⟩
    have : q = u := g4
    subst this
    exact hm k1 k' q (hk.trans (g2.le hs)) h2
  · rename_i hw
    rw [if_neg hw] at this
    have h5 : undef = u := this
    show ψ k2 undef
    rw [h5]
    exact hm k1 k2 u hk h2
end
end Go.Wm
namespace Go.Wm
open Go.RowKit
def X3 (N da : Nat) (ty : TypeId) (c0 : Array Value) (kr : PH) (Ψ : PH → List Value → Prop) : Nat → (Nat → Value) → PH → World → Prop := fun s tm k w => N ≤ w.heap.size ∧
  (s = 1 → ∃ b, tm da = .pointer (some ⟨b, 0, none⟩) ∧ N ≤ b ∧ b < w.heap.size ∧ k b = none ∧ w.heap[b]? = some (.cells c0 ty (0, 0))) ∧
  (s = 2 → ∃ b vs k0, tm da = .pointer (some ⟨b, 0, none⟩) ∧ N ≤ b ∧ b < w.heap.size ∧ k b = none ∧ w.heap[b]? = some (.cells vs.toArray ty (0, 0)) ∧ Ψ k0 vs ∧ Le kr k0 ∧ (∀ i o, k0 i = some o → i < w.heap.size ∧ k i = some o))
section
variable {P : Program} {F : Fr} {n : Nat} {ops : Array Oper} {Q : Exit → Act → World → Prop} {rest : List Oper} {o : Oper} {e : Env} {k : PH}
theorem cg_newsto {id : Nat} {l : List Oper} [hm : Mixed P] (m0 ja js da : Nat) (ty : TypeId) (c0 : Array Value) (Ψ : PH → List Value → Prop) (hok : okAny n l = true) (htail : tailOk m0 l = true) (hml : Nat.ble m0 l.length = true) (hch : chainOk (masks l []) [ja, js] m0 = true) (hda : ((l.take m0)[ja]?).bind (·.dst) = some da) (hdet : det e = true)
    (h : WC P F n l.toArray (masks l []) [ja, js] k (X3 F.w0.heap.size da ty c0 k Ψ) (fun e' => ∀ k0 k' vs b cells, Le k k0 → Ψ k0 cells → Le k0 k' → k' b = none → F.w0.heap.size ≤ b → vs da = .pointer (some ⟨b, 0, none⟩) → (∀ t p, get e' t = some p → p.holds k' (vs t)) → RG P F n l.toArray Q (l.drop m0) (nameE vs e') (upd k' b (.cells cells.toArray ty (0, 0)))) 0 (l.take m0) e) :
    CG P F n Q (.region id l.toArray true) e k := by
  intro a w ha hs
  have hlen : (l.take m0).length = m0 := by
    have := Nat.le_of_ble_eq_true hml
    simp; omega
  have hsplit : l.take m0 ++ l.drop m0 = l := List.take_append_drop m0 l
  generalize hA : l.take m0 = A at *
  generalize hT : l.drop m0 = T at *
  subst hlen
  rw [← hsplit] at hok htail hch h ⊢
  refine region_chain (F := F) (k := k) hm.eq hok htail hch (fun s tm k w k' w' hb hag hX => ⟨Nat.le_trans hX.1 hb.size, fun h0 => ?s1, fun h0 => ?s2⟩) ?same (fun t q hg => by obtain ⟨v, rfl⟩ := det_get hdet hg; trivial) ha hs ⟨hs.size, fun h => by omega, fun h => by omega⟩
    (WC.mono (fun e' hK k' a' w' hle hag hst hX => ?main) A 0 e h)
  case s1 =>
    obtain ⟨b, h1, h2, h3, h4, h5⟩ := hX.2.1 h0
    exact ⟨b, h1, h2, Nat.lt_of_lt_of_le h3 hb.size, (hag b h3).trans h4, (hb.block b h3).trans h5⟩
  case s2 =>
    obtain ⟨b, vs, k0, h1, h2, h3, h4, h5, h6, h7, h8⟩ := hX.2.2 h0
    exact ⟨b, vs, k0, h1, h2, Nat.lt_of_lt_of_le h3 hb.size, (hag b h3).trans h4, (hb.block b h3).trans h5, h6, h7, fun i o hi => ⟨Nat.lt_of_lt_of_le (h8 i o hi).1 hb.size, (hag i (h8 i o hi).1).trans (h8 i o hi).2⟩⟩
  case same =>
    intro s tm tm' k w hsame hX
    have key : 1 ≤ s → tm' da = tm da := fun hs1 => by
      cases hAo : A[ja]? with
      | none => rw [hAo] at hda; cases hda
      | some oo => rw [hAo] at hda; exact hsame 0 ja oo da (by omega) rfl hAo hda
    refine ⟨hX.1, fun h0 => ?_, fun h0 => ?_⟩
    · rw [key (by omega)]; exact hX.2.1 h0
    · rw [key (by omega)]; exact hX.2.2 h0
  case main =>
    obtain ⟨b, cells, k0, h1, h2, h3, h4, h5, h6, h7, h8⟩ := hX.2.2 rfl
    have hst' : St F (upd k' b (.cells cells.toArray ty (0, 0))) w' := hst.turn (w' := w') (.inl h2) rfl rfl rfl (Nat.le_refl _) h5 fun i _ _ => rfl
    refine hK k0 k' (fun t => a'.tmps.getD t undef) b cells h7 h6 (fun i o hi => (h8 i o hi).2) h4 h2 h1 (fun t p hp => hag.get t p hp) a' w' ⟨hag.size, hag.defers, fun t q hq => ?_⟩ hst'
    rw [nameE_get] at hq
    cases hg : get e' t with
    | none => rw [hg] at hq; cases hq
    | some p =>
      rw [hg] at hq
      cases hq
      have := hag.get t p hg
      cases p with
      | is v => exact this
      | such φ => rfl
/-- The block is made. -/
theorem eff_new3 {ty : TypeId} {z : Value} {c0 : Array Value} {kr : PH} {Ψ : PH → List Value → Prop} {da : Nat} (hd : o.dst = some da) (hf : Nat.blt da n = true) (hg : o.guard = none) (ha : Alc P e k o (fun b => .pointer (some ⟨b, 0, none⟩)) (.cells z.cells ty (0, 0))) (hz : z.cells = c0) :
    EffS P F n ops (X3 F.w0.heap.size da ty c0 kr Ψ) 0 o e k (.such fun _ v => ∃ b, v = .pointer (some ⟨b, 0, none⟩)) := by
  refine ⟨fun _ _ _ _ h => h, hg, fun a w k1 hk hs hX hsz hlo => ?_⟩
  subst hz
  have hrun := ha a.eval w (evs_of hlo) (hs.sub.mono hk)
  refine (ex_value hrun).mono ?_
  rintro u w' ⟨rfl, rfl⟩
  have hbel := below_alloc w (.cells z.cells ty (0, 0))
  have hs' := hs.below hbel
  refine ⟨k1, Le.refl _, hs', ⟨hs'.size, fun _ => ?_, fun h => by omega⟩, _, rfl⟩
  have et' : tmsOf (a.put o.dst (.pointer (some ⟨w.heap.size, 0, none⟩))) da = .pointer (some ⟨w.heap.size, 0, none⟩) := by rw [hd]; exact put_getD_same (by rw [hsz]; simpa [Nat.blt_eq] using hf)
  exact ⟨w.heap.size, et', hs.size, by show w.heap.size < (w.heap.push _).size; simp, hs.sub.none (Nat.le_refl _), by show (w.heap.push _)[w.heap.size]? = _; simp⟩
/-- What a slot holds is stored over it. -/
theorem eff_sto3 {t ty : TypeId} {da dv sz bs : Nat} {z : Value} {c0 : Array Value} {kr : PH} {Ψ : PH → List Value → Prop} {φ ψ : PH → Value → Prop} [hi : TyI P t sz bs z] (hdn : o.dst = none) (hg : o.guard = none) (hkr : Le kr k) (hop : o.op = .store t (.tmp da) (.tmp dv)) (ha : get e da = some (.such ψ)) (hv : get e dv = some (.such φ)) (hφ : ∀ k u, φ k u → ∃ vs : List Value, u = .agg vs.toArray ∧ Ψ k vs ∧ vs.length = sz ∧ ∀ x ∈ vs, x.oneCell' = true) (hc : c0.size = sz) :
    EffS P F n ops (X3 F.w0.heap.size da ty c0 kr Ψ) 1 o e k (.is undef) := by
  refine ⟨trivial, hg, fun a w k1 hk hs hX hsize hlo => ?_⟩
  obtain ⟨b, g1, g2, g3, g4, g5⟩ := hX.2.1 rfl
  have hdv : dv ∈ o.looksAt ops := by
    unfold Oper.looksAt
    refine List.mem_append.2 (.inl ?_)
    rw [List.mem_filterMap]
    exact ⟨.tmp dv, by simp [hop, Op.operands], rfl⟩
  have hu := hlo dv hdv _ hv
  have e2 : a.eval (.tmp dv) = a.tmps.getD dv undef := rfl
  have e1 : a.eval (.tmp da) = .pointer (some ⟨b, 0, none⟩) := g1
  generalize a.tmps.getD dv undef = u at hu e2
  obtain ⟨vs, rfl, hΨ, hl, h1⟩ := hφ _ _ hu
  obtain ⟨inf, hi1, hi2, _⟩ := hi.eq
  have hst := run_storeCells_at P b 0 ty vs 0 c0 w g5 (by omega) h1
  simp only [Nat.add_zero, Nat.zero_add] at hst
  have hrow : (c0.toList.take 0 ++ vs ++ c0.toList.drop vs.length).toArray = vs.toArray := by
    rw [List.drop_eq_nil_of_le (by simp; omega)]; simp
  have hrun : (execOp a.eval o).run P w = .ok .skip (w.setRow b vs.toArray) := by
    rw [← hrow]
    simp [execOp, hop, e1, e2, Instr.storeAt, Instr.sureAddr, storeVar, Value.cells, run_size hi1, hi2, hl, hst]
  have hh : (w.setRow b vs.toArray).heap = w.heap.setIfInBounds b (.cells vs.toArray ty (0, 0)) := by
    apply Array.ext_getElem?
    intro i
    by_cases hib : i = b
    · subst hib
      rw [setRow_heap w i c0 vs.toArray ty (0, 0) g5, heap_setObj g5]
    · rw [setRow_other w b i _ hib, Array.getElem?_setIfInBounds, if_neg (Ne.symm hib)]
  have hwb : (w.setRow b vs.toArray).heap[b]? = some (.cells vs.toArray ty (0, 0)) := setRow_heap w b c0 vs.toArray ty (0, 0) g5
  have hoth : ∀ i, i ≠ b → (w.setRow b vs.toArray).heap[i]? = w.heap[i]? := fun i hib => setRow_other w b i _ hib
  have hsz' : (w.setRow b vs.toArray).heap.size = w.heap.size := by rw [hh]; simp
  have hst2 := hs.turn (w' := w.setRow b vs.toArray) (.inl g2) rfl rfl rfl (by rw [hsz']; exact Nat.le_refl _) hwb (fun i hi _ => hoth i hi)
  refine (ex_skip hrun).mono ?_
  rintro u' w' ⟨rfl, rfl⟩
  refine ⟨k1, Le.refl _, hst2.weak ((Le.refl k1).upd g4) hs.keep, ⟨by rw [hsz']; exact hX.1, fun h => by omega, fun _ => ?_⟩, rfl⟩
  have et' : tmsOf (a.put o.dst undef) da = tmsOf a da := by
    rw [hdn]; rfl
  exact ⟨b, vs, k1, by rw [et']; exact g1, g2, by rw [hsz']; exact g3, g4, hwb, hΨ, hkr.trans hk, fun i ob hb => ⟨by rw [hsz']; exact hs.sub.lt hb, hb⟩⟩
end
end Go.Wm

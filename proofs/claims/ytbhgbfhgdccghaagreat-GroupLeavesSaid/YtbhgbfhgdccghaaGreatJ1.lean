/-
  A region that draws and stores what a call handed back into one cell of a block. Conditions: the region's own order, Bools that the kernel reckons.
-/
import Derived.Test.YtbhgbfhgdccghaaGreatSto2
import Derived.Test.YtbhgbfhgdccghaaGreatP10
import Derived.Test.YtbhgbfhgdccghaaGreatS9
set_option linter.all false
namespace Go.Wm
open Go.RowKit
/-- The block, ahead of the store and behind it. -/
def X1 (b off : Nat) (ty : TypeId) (c0 : Array Value) (kr : PH) (φ : PH → Value → Prop) : Nat → (Nat → Value) → PH → World → Prop := fun s _ k w => b < w.heap.size ∧ k b = none ∧
  (s = 0 → w.heap[b]? = some (.cells c0 ty (0, 0))) ∧
  (s = 1 → ∃ u k0, w.heap[b]? = some (.cells (c0.setIfInBounds off u) ty (0, 0)) ∧ φ k0 u ∧ Le kr k0 ∧ (∀ i o, k0 i = some o → i < w.heap.size ∧ k i = some o))
theorem Row.owner1 {N : Nat} {k : PH} {et et' sz : Nat} {v : Value} {m : Nat} {xs : List Value} (h : Row N k et sz v m xs) {b : Nat} {c : Array Value} {fr : Nat × Nat} (hb : k b = some (.cells c et' fr)) (hne : et ≠ et') : v.ownBlock ≠ some b := by
  obtain ⟨hl, (⟨rfl, rfl⟩ | ⟨g, cap, cur, rfl, hN, hk, h1, h2, h3, h4⟩)⟩ := h
  · simp [Value.ownBlock]
  · intro hc
    simp [Value.ownBlock] at hc
    subst hc
    rw [hk] at hb
    cases hb
    exact hne rfl
theorem Row.oneV1 {N : Nat} {k : PH} {et sz : Nat} {v : Value} {m : Nat} {xs : List Value} (h : Row N k et sz v m xs) : v.oneCell' = true := by
  obtain ⟨_, (⟨rfl, _⟩ | ⟨_, _, _, rfl, _⟩)⟩ := h <;> rfl
section
variable {P : Program} {F : Fr} {n : Nat} {ops : Array Oper} {Q : Exit → Act → World → Prop} {rest : List Oper} {o : Oper} {e : Env} {k : PH}
/-- A cell of a block that a region turns, read where it is known what stands there. -/
theorem loci_load1 {I : PH → World → Prop} {t : TypeId} {d : TypeDesc} {x : Operand} {b off : Nat} {v : Value} [h : TyU P t d] (hI : ∀ k w, I k w → ∃ c et fr, w.heap[b]? = some (.cells c et fr) ∧ c[off]? = some v) (hg : wantedE ops e o = some true) (hop : o.op = .load t x) (hx : opv e x = some (.pointer (some ⟨b, off, none⟩))) (hd : aggD d = false) : LocI P n ops I o e k (.is v) := by
  refine ⟨trivial, fun a w k1 hk hs hi _ hl => ?_⟩
  rw [if_pos (wanted_of hl hg)]
  have hev := evs_of hl
  rw [hop] at hev
  obtain ⟨c, et, fr, g1, g2⟩ := hI _ _ hi
  have h3 : w.cell? ⟨b, off, none⟩ = some v := by
    simp only [World.cell?, g1, Option.isSome_none, Bool.false_eq_true, if_false]
    exact g2
  have hrun : (execOp a.eval o).run P w = .ok (.value v) w := by
    simp [execOp, hop, hev x (by simp [Op.operands]) _ hx, Instr.loadAt, Instr.sureAddr, loadVar, run_isAgg h.eq, hd, h3]
  exact (ex_value hrun).mono fun u u' ⟨h1, h2⟩ => by
    subst h2
    exact ⟨k1, Below.refl _ _, fun _ _ => rfl, hs, h1⟩
theorem wc_i1 {ms fx : List Nat} {X : Nat → (Nat → Value) → PH → World → Prop} {K : Env → Prop} {i : Nat} {r : List Oper} {d : Nat} {v : Value} (hd : o.dst = some d) (hl : LocI P n ops (fun k w => ∃ s tm, s ≤ fx.length ∧ winOk ms fx i s = true ∧ X s tm k w) o e k (.is v)) (hn : fx.contains i = false) (h : WC P F n ops ms fx k X K (i + 1) r ((d, .is v) :: e)) : WC P F n ops ms fx k X K i (o :: r) e :=
  .inl ⟨hn, _, hl, by rw [hd]; exact h⟩
theorem cg_sto1 {id : Nat} {l : List Oper} [hm : Mixed P] (m0 j0 b off : Nat) (ty : TypeId) (c0 : Array Value) (φ : PH → Value → Prop) (hkb : k b = some (.cells c0 ty (0, 0))) (hbN : F.w0.heap.size ≤ b) (hok : okAny n l = true) (htail : tailOk m0 l = true) (hml : Nat.ble m0 l.length = true) (hch : chainOk (masks l []) [j0] m0 = true) (hdet : det e = true)
    (h : WC P F n l.toArray (masks l []) [j0] (delB k b) (X1 b off ty c0 (delB k b) φ) (fun e' => ∀ k0 k' vs u, Le (delB k b) k0 → φ k0 u → Le k0 k' → k' b = none → (∀ t p, get e' t = some p → p.holds k' (vs t)) → RG P F n l.toArray Q (l.drop m0) (nameE vs e') (upd k' b (.cells (c0.setIfInBounds off u) ty (0, 0)))) 0 (l.take m0) e) :
    CG P F n Q (.region id l.toArray true) e k := by
  intro a w ha hs
  have hlen : (l.take m0).length = m0 := by
    have := Nat.le_of_ble_eq_true hml
    simp; omega
  have hsplit : l.take m0 ++ l.drop m0 = l := List.take_append_drop m0 l
  generalize hA : l.take m0 = A at *
  generalize hT : l.drop m0 = T at *
  subst hlen
  rw [← hsplit] at hok htail hch h ⊢
  have hs' : St F (delB k b) w := hs.weak (delB_le k b) fun i hi hmu => by
    have hib : i ≠ b := by omega
    have : delB k b i = k i := by unfold delB; rw [if_neg hib]
    rw [this]
    exact hs.keep i hi hmu
  have hwb := hs.sub _ _ hkb
  refine region_chain (F := F) (k := delB k b) hm.eq hok htail hch (fun s tm k w k' w' hb hag hX => ⟨Nat.lt_of_lt_of_le hX.1 hb.size, (hag b hX.1).trans hX.2.1, fun h0 => (hb.block b hX.1).trans (hX.2.2.1 h0), fun h0 => ?stay⟩) (fun s tm tm' k w hsm hX => hX) (fun t q hg => by obtain ⟨v, rfl⟩ := det_get hdet hg; trivial) (ha.heap hdet) hs' ⟨(Array.getElem?_eq_some_iff.1 hwb).1, delB_own k b, fun _ => hwb, fun h0 => by omega⟩
    (WC.mono (fun e' hK k' a' w' hle hag hst hX => ?main) A 0 e h)
  case stay =>
    obtain ⟨u, k0, h1, h2, h3, h4⟩ := hX.2.2.2 h0
    exact ⟨u, k0, (hb.block b hX.1).trans h1, h2, h3, fun i o hi => ⟨Nat.lt_of_lt_of_le (h4 i o hi).1 hb.size, (hag i (h4 i o hi).1).trans (h4 i o hi).2⟩⟩
  case main =>
    obtain ⟨u, k0, h1, h2, h3, h4⟩ := hX.2.2.2 rfl
    have hst' : St F (upd k' b (.cells (c0.setIfInBounds off u) ty (0, 0))) w' := hst.turn (w' := w') (.inl hbN) rfl rfl rfl (Nat.le_refl _) h1 fun i _ _ => rfl
    refine hK k0 k' (fun t => a'.tmps.getD t undef) u h3 h2 (fun i o hi => (h4 i o hi).2) hX.2.1 (fun t p hp => hag.get t p hp) a' w' ⟨hag.size, hag.defers, fun t q hq => ?_⟩ hst'
    rw [nameE_get] at hq
    cases hg : get e' t with
    | none => rw [hg] at hq; cases hq
    | some p =>
      rw [hg] at hq
      cases hq
      have := hag.get t p hg
      cases p with
      | is v => exact this
      | such φ => rfl
/-- The store of what a call handed back. -/
theorem effs_st1 {t : TypeId} {x : Operand} {dv sz bs b off : Nat} {kr : PH} {ty : TypeId} {c0 : Array Value} {φ : PH → Value → Prop} {z : Value} [hi : TyI P t sz bs z] (hg : o.guard = none) (hkr : Le kr k) (hop : o.op = .store t x (.tmp dv)) (hx : opv e x = some (.pointer (some ⟨b, off, none⟩))) (hsz : Nat.beq sz 1 = true) (hv : get e dv = some (.such φ)) (hφ : ∀ k u, φ k u → u.oneCell' = true) (hlt : off < c0.size) (hr : F.w0.heap.size ≤ b) :
    EffS P F n ops (X1 b off ty c0 kr φ) 0 o e k (.is undef) := by
  refine ⟨trivial, hg, fun a w k1 hk hs hX hsize hlo => ?_⟩
  obtain ⟨hbl, hkb, h0, _⟩ := hX
  have hw := h0 rfl
  have hdv : dv ∈ o.looksAt ops := by
    unfold Oper.looksAt
    refine List.mem_append.2 (.inl ?_)
    rw [List.mem_filterMap]
    exact ⟨.tmp dv, by simp [hop, Op.operands], rfl⟩
  have hu := hlo dv hdv _ hv
  have e2 : a.eval (.tmp dv) = a.tmps.getD dv undef := rfl
  generalize a.tmps.getD dv undef = u at hu e2
  have h1 := hφ _ _ hu
  have e1 := (evs_of hlo) x (by simp [hop, Op.operands]) _ hx
  obtain ⟨inf, hi1, hi2, _⟩ := hi.eq
  have hsz1 : sz = 1 := Nat.eq_of_beq_eq_true hsz
  have hcs : u.cells = #[u] := by cases u <;> first | rfl | simp [Value.oneCell'] at h1
  have hc : w.cell? ⟨b, off, none⟩ = some c0[off] := by
    simp only [World.cell?, hw, Option.isSome_none, Bool.false_eq_true, if_false]
    exact Array.getElem?_eq_getElem hlt
  have hfz : w.frozen? ⟨b, off, none⟩ = false := by simp [World.frozen?, hw]
  have hrun : (execOp a.eval o).run P w = .ok .skip (w.setCell ⟨b, off, none⟩ u) := by
    simp [execOp, hop, e1, e2, Instr.storeAt, Instr.sureAddr, storeVar, hcs, run_size hi1, hi2, hsz1, storeCells, addr_add, run_store P w _ u _ h1, hc, hfz]
  have hwb : (w.setCell ⟨b, off, none⟩ u).heap[b]? = some (.cells (c0.setIfInBounds off u) ty (0, 0)) := heap_setCell_at hw
  have hoth : ∀ i, i ≠ b → (w.setCell ⟨b, off, none⟩ u).heap[i]? = w.heap[i]? := fun i hib => Below.heap_setCell _ _ _ _ hib
  have hsz' : (w.setCell ⟨b, off, none⟩ u).heap.size = w.heap.size := by
    have h3 : (w.setCell ⟨b, off, none⟩ u).heap = w.heap.setIfInBounds b (.cells (c0.setIfInBounds off u) ty (0, 0)) := by
      apply Array.ext_getElem?
      intro i
      by_cases hib : i = b
      · subst hib
        rw [hwb, heap_setObj hw]
      · rw [hoth i hib, Array.getElem?_setIfInBounds, if_neg (Ne.symm hib)]
    rw [h3]; simp
  have hst := hs.turn (w' := w.setCell ⟨b, off, none⟩ u) (.inl hr) rfl rfl rfl (by rw [hsz']; exact Nat.le_refl _) hwb (fun i hi _ => hoth i hi)
  refine (ex_skip hrun).mono ?_
  rintro u' w' ⟨rfl, rfl⟩
  refine ⟨k1, Le.refl _, hst.weak ((Le.refl k1).upd hkb) hs.keep, ⟨by rw [hsz']; exact hbl, hkb, fun h => by omega, fun _ => ⟨u, k1, hwb, hu, hkr.trans hk, fun i ob hb => ⟨?_, hb⟩⟩⟩, rfl⟩
  rw [hsz']
  exact hs.sub.lt hb
/-- The append of 'cg_grow', and that its block is none that is known. -/
theorem eff_grow2 {t et : TypeId} {sz bs : Nat} {z : Value} {x : Operand} {ty d : Nat} {φ : PH → Value → Prop} {v : Value} {m j : Nat} {xs news : List Value} [ht : TyU P t (.slice et)] [hi : TyI P et sz bs z]
    (hd : o.dst = some d) (hg : o.guard = none) (hop : o.op = .call { callee := .builtin .append, args := #[x, .tmp ty], argTypes := #[t, t] }) (hx : opv e x = some v) (hy : get e ty = some (.such φ)) (hyp : ∀ k1 u, Le k k1 → φ k1 u → ∃ bx ox c, u = .slice (some ⟨bx, ox, none⟩) j c ∧ Cells k1 bx ox news)
    (hl : news.length = j * sz) (h1 : ∀ u ∈ news, u.oneCell' = true) (hz : Nat.beq z.cells.size sz = true) (hpos : Nat.blt 0 sz = true) (hm : m + j ≤ maxLen) (hby : (m + j) * bs ≤ 140737488355328) :
    EffS P F n ops (XG F.w0.heap.size et sz v m xs) 0 o e k (.such fun k' v' => Row F.w0.heap.size k' et sz v' (m + j) (xs ++ news) ∧ Apart k v') := by
  refine ⟨fun k k' v hle h => ⟨h.1.le hle, h.2⟩, hg, fun a w k1 hk hs hX hsz hlo => ?_⟩
  obtain ⟨hN, hX⟩ := hX
  obtain ⟨hx0, hlack⟩ := hX rfl
  have hev := evs_of hlo
  rw [hop] at hev
  have e1 := hev x (by simp [Op.operands, Call.operands]) _ hx
  have hty : ty ∈ o.looksAt ops := by
    unfold Oper.looksAt
    refine List.mem_append.2 (.inl ?_)
    rw [List.mem_filterMap]
    exact ⟨.tmp ty, by simp [hop, Op.operands, Call.operands], rfl⟩
  have hu := hlo ty hty _ hy
  obtain ⟨bx, ox, c, hue, hcl⟩ := hyp k1 _ hk hu
  have e2 : a.eval (.tmp ty) = .slice (some ⟨bx, ox, none⟩) j c := hue
  obtain ⟨v', w', hr, g1, g2, g3, g4⟩ := app_world (P := P) (t := t) (ty := o.type) (c := c) w hx0 hN (fun q u hq => by rw [addr_add]; exact hcl.cell hs.sub hq) hl h1 hz hpos hm hby
  have hexec : (execOp a.eval o).run P w = .ok (.value v') w' := by
    simp [execOp, hop, resolve, invoke, builtin, e1, e2, hr]
  have hs2 : St F (fun b => if v.ownBlock = some b then w.heap[b]? else k1 b) w := by
    refine ⟨hs.os, hs.tape, hs.output, hs.size, hs.old, fun b ob hb => ?_, fun b hb hmu => ?_⟩
    · by_cases e : v.ownBlock = some b
      · simpa [e] using hb
      · simp only [e, if_false] at hb
        exact hs.sub b ob hb
    · have : v.ownBlock ≠ some b := fun e => by have := (hx0.block e).1; omega
      simp only [this, if_false]
      exact hs.keep b hb hmu
  have hrow2 : Row F.w0.heap.size (fun b => if v.ownBlock = some b then w.heap[b]? else k1 b) et sz v m xs := hx0.at fun g hg => by simp [hg, wPH]
  obtain ⟨k', q1, q2, q3⟩ := row_step hs2 hrow2 g1 g2 g3 g4
  have hle : Le k1 (fun b => if v.ownBlock = some b then w.heap[b]? else k1 b) := fun b ob hb => by
    have : v.ownBlock ≠ some b := fun e => by rw [(hlack b e).1] at hb; cases hb
    simp only [this, if_false]
    exact hb
  obtain ⟨hle', hapn⟩ := q2 k1 hle fun g hg => (hlack g hg).1
  refine ex_value hexec |>.mono ?_
  rintro u w'' ⟨rfl, rfl⟩
  exact ⟨k', hle', q3, ⟨Nat.le_trans hN g2.2.2.2, fun h => by omega⟩, q1, fun g hg => by
    cases hkg : k g with
    | none => rfl
    | some ob => have := hapn g hg; rw [hk g ob hkg] at this; cases this⟩
end
end Go.Wm

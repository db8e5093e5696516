/-
  Two more operations in a region that draws: a store over a whole block of the call's own; a call that makes the row that grows. Conditions: none beyond those of each law.
-/
import Derived.Test.YtfejamdfhbamcaaMn
import Derived.Test.YtfejamdfhbamcaaIns
import Derived.Test.YtfejamdfhbamcaaCoB
set_option linter.all false
namespace Go.Wm
variable [Dfr]
open Go.RowKit
/-- Behind the q-th append the slot d q holds the row of m q elements, of whose own block nothing else is known. -/
def XR (N et sz qe : Nat) (d m : Nat → Nat) (xs : Nat → List Value) : Nat → (Nat → Value) → PH → World → Prop := fun s tm k w =>
  N ≤ w.heap.size ∧ ∀ q, s = q + 1 → q ≤ qe → Row N (wPH w) et sz (tm (d q)) (m q) (xs q) ∧ LackV (tm (d q)) k w
/-- What is appended: j elements, whose cells are news, or none. -/
def Apn (k : PH) (u : Value) (j : Nat) (news : List Value) : Prop := (∃ bx ox c, u = .slice (some ⟨bx, ox, none⟩) j c ∧ Cells k bx ox news) ∨ (j = 0 ∧ news = [] ∧ ∃ a c, u = .slice a 0 c)
theorem Apn.le {k k' : PH} {u : Value} {j : Nat} {news : List Value} (h : Apn k u j news) (hl : Le k k') : Apn k' u j news := by
  rcases h with ⟨bx, ox, c, h1, h2⟩ | h
  · exact .inl ⟨bx, ox, c, h1, h2.le hl⟩
  · exact .inr h
section
variable {P : Program} {F : Fr} {n : Nat} {ops : Array Oper} {Q : Exit → Act → World → Prop} {rest : List Oper} {o : Oper} {e : Env} {k : PH}
theorem xr_size {N et sz qe : Nat} {d m : Nat → Nat} {xs : Nat → List Value} {ms fx : List Nat} {i : Nat} : ∀ k w, (∃ s tm, s ≤ fx.length ∧ winOk ms fx i s = true ∧ XR N et sz qe d m xs s tm k w) → N ≤ w.heap.size := fun _ _ ⟨_, _, _, _, h⟩ => h.1
theorem cg_rows {id : Nat} {l : List Oper} [hm : Mixed P] (m0 : Nat) (fx : List Nat) (qe : Nat) (d m : Nat → Nat) (xs : Nat → List Value) (et sz : Nat) (hok : okAny n l = true) (htail : tailOk m0 l = true) (hml : Nat.ble m0 l.length = true) (hch : chainOk (masks l []) fx m0 = true) (hfx : fx.length = qe + 1)
    (hd : ∀ q j, fx[q]? = some j → ((l.take m0)[j]?).bind (·.dst) = some (d q)) (hdet : det e = true)
    (h : WC P F n l.toArray (masks l []) fx k (XR F.w0.heap.size et sz qe d m xs) (fun e' => ∀ k1 k' vs, Le k k1 → Le k1 k' → (∀ t p, get e' t = some p → p.holds k1 (vs t)) → (∀ g, (vs (d qe)).ownBlock = some g → k1 g = none) → Row F.w0.heap.size k' et sz (vs (d qe)) (m qe) (xs qe) → RG P F n l.toArray Q (l.drop m0) (nameE vs e') k') 0 (l.take m0) e) :
    CG P F n Q (.region id l.toArray true) e k := by
  intro a w ha hs
  have hlen : (l.take m0).length = m0 := by
    have := Nat.le_of_ble_eq_true hml
    simp; omega
  have hsplit : l.take m0 ++ l.drop m0 = l := List.take_append_drop m0 l
  generalize hA : l.take m0 = A at *
  generalize hT : l.drop m0 = T at *
  subst hlen
  rw [← hsplit] at hok htail hch h ⊢
  have hx0 : XR F.w0.heap.size et sz qe d m xs 0 (tmsOf a) k w := ⟨hs.size, fun q h => by omega⟩
  refine region_chain (F := F) (k := k) hm.eq hok htail hch (fun s tm k w k' w' hb hag hX => ⟨Nat.le_trans hX.1 hb.size, fun q hq hqe => rowAt_stays (v := tm (d q)) (v' := tm (d q)) k w k' w' hb hag (hX.2 q hq hqe)⟩) ?_ (fun t q hg => by obtain ⟨v, rfl⟩ := det_get hdet hg; trivial) ha hs hx0
    (WC.mono (fun e' hK k' a' w' hle hag hst hX => ?_) A 0 e h)
  · intro s tm tm' k w hsame hX
    refine ⟨hX.1, fun q hq hqe => ?_⟩
    subst hq
    have hqf : q < fx.length := by omega
    have hj := List.getElem?_eq_getElem hqf
    have hdq := hd q _ hj
    cases hAo : A[fx[q]]? with
    | none => rw [hAo] at hdq; cases hdq
    | some oo =>
      rw [hAo] at hdq
      rw [hsame q fx[q] oo (d q) (by omega) hj hAo hdq]
      exact hX.2 q rfl hqe
  · obtain ⟨hrow, hlack⟩ := hX.2 qe hfx (Nat.le_refl _)
    have hrow : Row F.w0.heap.size (wPH w') et sz (a'.tmps.getD (d qe) undef) (m qe) (xs qe) := hrow
    have hlack : LackV (a'.tmps.getD (d qe) undef) k' w' := hlack
    obtain ⟨v, hv⟩ : ∃ v, a'.tmps.getD (d qe) undef = v := ⟨_, rfl⟩
    rw [hv] at hrow hlack
    have hle2 : Le k' (fun b => if v.ownBlock = some b then w'.heap[b]? else k' b) := fun b ob hb => by
      have : v.ownBlock ≠ some b := fun e => by rw [(hlack b e).1] at hb; cases hb
      simp only [this, if_false]
      exact hb
    have hst2 : St F (fun b => if v.ownBlock = some b then w'.heap[b]? else k' b) w' := by
      refine ⟨hst.os, hst.tape, hst.output, hst.size, hst.old, fun b ob hb => ?_, fun b hb hmu => ?_⟩
      · by_cases e : v.ownBlock = some b
        · simpa [e] using hb
        · simp only [e, if_false] at hb
          exact hst.sub b ob hb
      · have : v.ownBlock ≠ some b := fun e => by have := (hrow.block e).1; omega
        simp only [this, if_false]
        exact hst.keep b hb hmu
    refine hK k' _ (fun t => a'.tmps.getD t undef) hle hle2 (fun t p hp => hag.get t p hp) (fun g hg => (hlack g (by rw [← hv]; exact hg)).1) (by
      show Row _ _ _ _ (a'.tmps.getD (d qe) undef) _ _
      rw [hv]; exact hrow.at fun g hg => by simp [hg, wPH]) a' w' ⟨hag.size, hag.defers, fun t q hq => ?_⟩ hst2
    rw [nameE_get] at hq
    cases hg : get e' t with
    | none => rw [hg] at hq; cases hq
    | some p =>
      rw [hg] at hq
      cases hq
      have := hag.get t p hg
      cases p with
      | is v => exact this
      | such φ => rfl
theorem run_app0 {t et ty : TypeId} {sz bs : Nat} {z : Value} {base a : Option Addr} {m cap c : Nat} [ht : TyU P t (.slice et)] [hi : TyI P et sz bs z] (w : World) (hmc : m ≤ cap) :
    (Builtin.append_ #[t, t] ty #[.slice base m cap, .slice a 0 c]).run P w = .ok (.slice base m cap) w := by
  obtain ⟨i, hi1, hi2, _⟩ := hi.eq
  have hfc : (Builtin.firstCells i.size 0 (.slice a 0 c)).run P w = .ok #[] w := by
    cases a with
    | none => exact run_firstCells_none _ _ _ _ _
    | some ad => exact run_firstCells_some (P := P) w i.size 0 ad 0 c [] (by simp) (by simp)
  cases base with
  | none => simp [Builtin.append_, run_underlying ht.eq, run_size hi1, Builtin.lenOf, hfc, hmc]
  | some ad => simp [Builtin.append_, run_underlying ht.eq, run_size hi1, Builtin.lenOf, hfc, hmc, storeCells]
theorem app_step {t et ty : TypeId} {sz bs m j : Nat} {z v u : Value} {xs news : List Value} {w : World} [ht : TyU P t (.slice et)] [hi : TyI P et sz bs z] (hs : St F k w) (hrow : Row F.w0.heap.size (wPH w) et sz v m xs) (hlack : LackV v k w) (hu : Apn k u j news)
    (hl : news.length = j * sz) (h1 : ∀ u ∈ news, u.oneCell' = true) (hz : Nat.beq z.cells.size sz = true) (hpos : Nat.blt 0 sz = true) (hm : m + j ≤ maxLen) (hby : (m + j) * bs ≤ 140737488355328) :
    ∃ v' w', (Builtin.append_ #[t, t] ty #[v, u]).run P w = .ok v' w' ∧ St F k w' ∧ Row F.w0.heap.size (wPH w') et sz v' (m + j) (xs ++ news) ∧ LackV v' k w' := by
  rcases hu with ⟨bx, ox, c, rfl, hc⟩ | ⟨rfl, rfl, a, c, rfl⟩
  · obtain ⟨v', w', hr, g1, g2, g3, g4⟩ := app_world (P := P) (t := t) (ty := ty) (c := c) w hrow hs.size (fun q u hq => by rw [addr_add]; exact hc.cell hs.sub hq) hl h1 hz hpos hm hby
    refine ⟨v', w', hr, ⟨g2.1.trans hs.os, g2.2.1.trans hs.tape, g2.2.2.1.trans hs.output, Nat.le_trans hs.size g2.2.2.2, fun b hb hmu => ?_, fun b ob hb => ?_, hs.keep⟩, g1, fun g hg => ?_⟩
    · rw [g3 b (Nat.lt_of_lt_of_le hb hs.size) fun e => by have := (hrow.block e).1; omega]
      exact hs.old b hb hmu
    · rw [g3 b (hs.sub.lt hb) fun e => by rw [(hlack b e).1] at hb; cases hb]
      exact hs.sub b ob hb
    · obtain ⟨_, ob, hob⟩ := g1.block hg
      refine ⟨?_, (Array.getElem?_eq_some_iff.1 hob).1⟩
      rcases g4 g hg with h | h
      · exact (hlack g h).1
      · exact hs.sub.none h
  · have hrow' := hrow
    obtain ⟨_, hr⟩ := hrow
    rcases hr with ⟨rfl, rfl⟩ | ⟨g, cap, cur, rfl, e2, e3, e4, _⟩
    · exact ⟨_, w, run_app0 w (Nat.le_refl _), hs, by simpa using hrow', hlack⟩
    · exact ⟨_, w, run_app0 w e4, hs, by simpa using hrow', hlack⟩
/-- What the second operand of an append holds. -/
def YApn (e : Env) (k : PH) (y : Operand) (j : Nat) (news : List Value) : Prop := (∃ u, opv e y = some u ∧ Apn k u j news) ∨ ∃ ty φ, y = .tmp ty ∧ get e ty = some (.such φ) ∧ ∀ k1 u, Le k k1 → φ k1 u → Apn k1 u j news
theorem yapn_eval {a : Act} {k1 : PH} {x y : Operand} {t : TypeId} {j : Nat} {news : List Value} (hop : o.op = .call { callee := .builtin .append, args := #[x, y], argTypes := #[t, t] }) (h : YApn e k y j news) (hk : Le k k1) (hlo : ∀ t ∈ o.looksAt ops, ∀ q, get e t = some q → q.holds k1 (a.tmps.getD t undef)) : Apn k1 (a.eval y) j news := by
  have hev := evs_of hlo
  rw [hop] at hev
  rcases h with ⟨u, hu, hA⟩ | ⟨ty, φ, rfl, hg, hA⟩
  · rw [hev y (by simp [Op.operands, Call.operands]) _ hu]
    exact hA.le hk
  · have hty : ty ∈ o.looksAt ops := by
      unfold Oper.looksAt
      refine List.mem_append.2 (.inl ?_)
      rw [List.mem_filterMap]
      exact ⟨.tmp ty, by simp [hop, Op.operands, Call.operands], rfl⟩
    exact hA k1 _ hk (hlo ty hty _ hg)
theorem effs_appS {t et : TypeId} {sz bs qe j q : Nat} {z : Value} {y : Operand} {d m : Nat → Nat} {xs : Nat → List Value} {news : List Value} [ht : TyU P t (.slice et)] [hi : TyI P et sz bs z] (hd : o.dst = some (d (q + 1))) (hf : Nat.blt (d (q + 1)) n = true) (hg : o.guard = none)
    (hop : o.op = .call { callee := .builtin .append, args := #[.tmp (d q), y], argTypes := #[t, t] }) (hqe : q ≤ qe) (hy : YApn e k y j news) (hm0 : m (q + 1) = m q + j) (hx0 : xs (q + 1) = xs q ++ news)
    (hl : news.length = j * sz) (h1 : ∀ u ∈ news, u.oneCell' = true) (hz : Nat.beq z.cells.size sz = true) (hpos : Nat.blt 0 sz = true) (hm : m q + j ≤ maxLen) (hby : (m q + j) * bs ≤ 140737488355328) :
    EffS P F n ops (XR F.w0.heap.size et sz qe d m xs) (q + 1) o e k (.such fun _ _ => True) := by
  refine ⟨fun _ _ _ _ _ => trivial, hg, fun a w k1 hk hs hX hsz hlo => ?_⟩
  have hA := yapn_eval hop hy hk hlo
  obtain ⟨hN, hX⟩ := hX
  obtain ⟨hrow, hlack⟩ := hX q rfl hqe
  have ev : a.eval (.tmp (d q)) = tmsOf a (d q) := rfl
  obtain ⟨v', w', hr, h2, h3, h4⟩ := app_step (P := P) (t := t) (ty := o.type) hs hrow hlack hA hl h1 hz hpos hm hby
  have hexec : (execOp a.eval o).run P w = .ok (.value v') w' := by
    simp [execOp, hop, resolve, invoke, builtin, ev, hr]
  refine ex_value hexec |>.mono ?_
  rintro u w'' ⟨rfl, rfl⟩
  refine ⟨k1, Le.refl _, h2, ⟨h2.size, fun q' hq' _ => ?_⟩, trivial⟩
  have : q' = q + 1 := by omega
  subst this
  have et : tmsOf (a.put o.dst u) (d (q + 1)) = u := by rw [hd]; exact put_getD_same (by rw [hsz]; simpa [Nat.blt_eq] using hf)
  rw [et, hm0, hx0]
  exact ⟨h3, h4⟩
end
end Go.Wm
namespace Go.Wm
variable [Dfr]
open Go.RowKit

section
variable {P : Program} {F : Fr} {n : Nat} {ops : Array Oper} {Q : Exit → Act → World → Prop} {o : Oper} {e : Env} {k : PH}
/-- A store over the whole of a block. -/
theorem effs_stoL {t : TypeId} {x y : Operand} {b sz bs j q : Nat} {z : Value} {vs : List Value} {c : Array Value} {et : TypeId} {kr : PH} {D : Nat → List (Nat × Obj)} [hi : TyI P t sz bs z] (hg : o.guard = none) (hop : o.op = .store t x y) (hx : opv e x = some (.pointer (some ⟨b, 0, none⟩))) (hy : opv e y = some (.agg vs.toArray))
    (hl : vs.length = sz) (h1 : ∀ u ∈ vs, u.oneCell' = true) (hc : c.size = vs.length) (h0 : (D q)[j]? = some (b, .cells c et (0, 0))) (hD : D (q + 1) = (D q).set j (b, .cells vs.toArray et (0, 0))) (hne : ∀ i p, (D q)[i]? = some p → i ≠ j → p.1 ≠ b) (hr : F.w0.heap.size ≤ b) :
    EffS P F n ops (XL D) q o e kr (.is undef) :=
  eff_turn hg h0 hD hne hr fun ev w hev hw => .inr ⟨by
    rw [hop] at hev
    have e1 := hev x (by simp [Op.operands]) _ hx
    have e2 := hev y (by simp [Op.operands]) _ hy
    obtain ⟨inf, hi1, hi2, _⟩ := hi.eq
    have hst := run_storeCells_at P b 0 et vs 0 c w hw (by omega) h1
    simp only [Nat.add_zero, Nat.zero_add] at hst
    have hrow : (c.toList.take 0 ++ vs ++ c.toList.drop vs.length).toArray = vs.toArray := by
      rw [List.drop_eq_nil_of_le (by simp; omega)]; simp
    have hrun : (execOp ev o).run P w = .ok .skip (w.setRow b vs.toArray) := by
      rw [← hrow]
      simp [execOp, hop, e1, e2, Instr.storeAt, Instr.sureAddr, storeVar, Value.cells, run_size hi1, hi2, hl, hst]
    rw [hrun]
    have hh : (w.setRow b vs.toArray).heap = w.heap.setIfInBounds b (.cells vs.toArray et (0, 0)) := by
      apply Array.ext_getElem?
      intro i
      by_cases hib : i = b
      · subst hib
        rw [setRow_heap w i c vs.toArray et (0, 0) hw, heap_setObj hw]
      · rw [setRow_other w b i _ hib, Array.getElem?_setIfInBounds, if_neg (Ne.symm hib)]
    rw [← hh]
    rfl, rfl⟩
/-- A call that makes the row that grows. -/
theorem effs_callR {qe et sz : Nat} {d m : Nat → Nat} {xs : Nat → List Value} {x : Operand} {args : Array Operand} {ats : Array TypeId} {g : FuncId} {first cap : Array Value} {vs : List Value} [FnOk P g]
    (hd : o.dst = some (d 0)) (hf : Nat.blt (d 0) n = true) (hg : o.guard = none) (hop : o.op = .call { callee := .value x, args := args, argTypes := ats }) (hx : opv e x = some (.func (.func g) first cap)) (ha : opvs e args.toList = some vs)
    (hct : CTN P g (first ++ vs.toArray ++ cap) k (fun N k' v => Row N k' et sz v (m 0) (xs 0))) :
    EffS P F n ops (XR F.w0.heap.size et sz qe d m xs) 0 o e k (.such fun _ _ => True) := by
  refine ⟨fun _ _ _ _ _ => trivial, hg, fun a w k1 hk hs hX hsz hlo => ?_⟩
  have hev := evs_of hlo
  have hrun := run_call (P := P) (w := w) hop hx ha hev
  refine (ex_enter (φ := fun v w' => ∃ k', Below w.heap.size w w' ∧ Sub k' w' ∧ Row w.heap.size k' et sz v (m 0) (xs 0)) hrun ((hct w k1 hk hs.sub).mono fun e w' ⟨v, k', he, hbel, hagr, hsub, hrow⟩ => ⟨v, he, k', hbel, hsub, hrow⟩)) |>.mono ?_
  rintro u w' ⟨k', hbel, hsub, hrow⟩
  have hs' := hs.below hbel
  refine ⟨k1, Le.refl _, hs', ⟨hs'.size, fun q hq _ => ?_⟩, trivial⟩
  have : q = 0 := by omega
  subst this
  have et' : tmsOf (a.put o.dst u) (d 0) = u := by rw [hd]; exact put_getD_same (by rw [hsz]; simpa [Nat.blt_eq] using hf)
  rw [et']
  refine ⟨(hrow.at fun g hg => ?_).N_le hs.size, fun g hg => ?_⟩
  · obtain ⟨_, ob, hob⟩ := hrow.block hg
    rw [hob]; exact hsub g ob hob
  · obtain ⟨hN, ob, hob⟩ := hrow.block hg
    exact ⟨hs.sub.none hN, hsub.lt hob⟩
end
end Go.Wm

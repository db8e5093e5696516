/-
  Lists that rise by an order, and what is put into them or taken out, in plain Lean. Conditions: none.
-/
import Derived.Test.YtgalkgidjpbiaaaGreatIns
import Derived.Test.YtgalkgidjpbiaaaGreatCrP
set_option linter.all false
namespace Go.Wm
open Go.RowKit
/-- The new block, of which nothing is known; then what lies in it. -/
def XS (N d0 sz : Nat) (kr : PH) (ty : TypeId) (φ : PH → Value → Prop) : Nat → (Nat → Value) → PH → World → Prop := fun s tm k w => N ≤ w.heap.size ∧
  (s = 1 → ∃ b c, tm d0 = .pointer (some ⟨b, 0, none⟩) ∧ w.heap[b]? = some (.cells c ty (0, 0)) ∧ c.size = sz ∧ k b = none ∧ b < w.heap.size ∧ N ≤ b ∧ kr b = none) ∧
  (s = 2 → ∃ b u k0, tm d0 = .pointer (some ⟨b, 0, none⟩) ∧ w.heap[b]? = some (.cells u.cells ty (0, 0)) ∧ φ k0 u ∧ Le kr k0 ∧ (∀ i o, k0 i = some o → i < w.heap.size ∧ k i = some o) ∧ k b = none ∧ b < w.heap.size ∧ N ≤ b ∧ kr b = none)
section
variable {P : Program} {F : Fr} {n : Nat} {ops : Array Oper} {Q : Exit → Act → World → Prop} {rest : List Oper} {o : Oper} {e : Env} {k : PH}
theorem cg_sto {id : Nat} {l : List Oper} [hm : Mixed P] (m0 j0 j1 d0 sz : Nat) (ty : TypeId) (φ : PH → Value → Prop) (hok : okAny n l = true) (htail : tailOk m0 l = true) (hml : Nat.ble m0 l.length = true) (hch : chainOk (masks l []) [j0, j1] m0 = true) (hd0 : ((l.take m0)[j0]?).bind (·.dst) = some d0) (hdet : det e = true)
    (h : WC P F n l.toArray (masks l []) [j0, j1] k (XS F.w0.heap.size d0 sz k ty φ) (fun e' => ∀ k0 kq k' vs b u, Le k k0 → φ k0 u → Le k0 kq → kq b = none → Le kq k' → k' b = some (.cells u.cells ty (0, 0)) → F.w0.heap.size ≤ b → vs d0 = .pointer (some ⟨b, 0, none⟩) → (∀ t p, get e' t = some p → p.holds kq (vs t)) → RG P F n l.toArray Q (l.drop m0) (nameE vs e') k') 0 (l.take m0) e) :
    CG P F n Q (.region id l.toArray true) e k := by
  intro a w ha hs
  have hlen : (l.take m0).length = m0 := by
    have := Nat.le_of_ble_eq_true hml
    simp; omega
  have hsplit : l.take m0 ++ l.drop m0 = l := List.take_append_drop m0 l
  generalize hA : l.take m0 = A at *
  generalize hT : l.drop m0 = T at *
  subst hlen
  rw [← hsplit] at hok htail hch h ⊢
  refine region_chain (F := F) (k := k) hm.eq hok htail hch (fun s tm k w k' w' hb hag hX => ⟨Nat.le_trans hX.1 hb.size, fun h0 => ?stay1, fun h0 => ?stay2⟩) (fun s tm tm' k w hsm hX => ⟨hX.1, fun h0 => ?same1, fun h0 => ?same2⟩) (fun t q hg => by obtain ⟨v, rfl⟩ := det_get hdet hg; trivial) (ha.heap hdet) hs ⟨hs.size, fun h0 => by omega, fun h0 => by omega⟩
    (WC.mono (fun e' hK k' a' w' hle hag hst hX => ?main) A 0 e h)
  case stay1 =>
    obtain ⟨b, c, h1, h2, h3, h4, h5, h6, h7⟩ := hX.2.1 h0
    exact ⟨b, c, h1, by rw [hb.block b h5]; exact h2, h3, (hag b h5).trans h4, Nat.lt_of_lt_of_le h5 hb.size, h6, h7⟩
  case stay2 =>
    obtain ⟨b, u, k0, h1, h2, h3, h3', h4, h5, h6, h7, h8⟩ := hX.2.2 h0
    exact ⟨b, u, k0, h1, by rw [hb.block b h6]; exact h2, h3, h3', fun i o hi => ⟨Nat.lt_of_lt_of_le (h4 i o hi).1 hb.size, (hag i (h4 i o hi).1).trans (h4 i o hi).2⟩, (hag b h6).trans h5, Nat.lt_of_lt_of_le h6 hb.size, h7, h8⟩
  case same1 =>
    have e0 : tm' d0 = tm d0 := by
      obtain ⟨o0, ho0, hd⟩ := Option.bind_eq_some_iff.1 hd0
      exact hsm 0 j0 o0 d0 (by omega) rfl ho0 hd
    rw [e0]
    exact hX.2.1 h0
  case same2 =>
    have e0 : tm' d0 = tm d0 := by
      obtain ⟨o0, ho0, hd⟩ := Option.bind_eq_some_iff.1 hd0
      exact hsm 0 j0 o0 d0 (by omega) rfl ho0 hd
    rw [e0]
    exact hX.2.2 h0
  case main =>
    obtain ⟨b, u, k0, h1, h2, h3, h3', h4, h5, h6, h7, h8⟩ := hX.2.2 rfl
    have hlk : Le k' (upd k' b (.cells u.cells ty (0, 0))) := le_new h5 _
    have hst' : St F (upd k' b (.cells u.cells ty (0, 0))) w' := ⟨hst.os, hst.tape, hst.output, hst.size, hst.old, fun i o hi => ?sub, fun i hi hmu => ?keep⟩
    refine hK k0 k' (upd k' b (.cells u.cells ty (0, 0))) (fun t => a'.tmps.getD t undef) b u h3' h3 (fun i o hi => (h4 i o hi).2) h5 hlk (upd_same _ _ _) h7 h1 (fun t p hp => hag.get t p hp) a' w' ⟨hag.size, hag.defers, fun t q hq => ?_⟩ hst'
    case sub =>
      by_cases hib : i = b
      · subst hib
        rw [upd_same] at hi
        cases hi
        exact h2
      · rw [upd_other hib] at hi
        exact hst.sub i o hi
    case keep =>
      rw [upd_other (by omega)]
      exact hst.keep i hi hmu
    · rw [nameE_get] at hq
      cases hg : get e' t with
      | none => rw [hg] at hq; cases hq
      | some p =>
        rw [hg] at hq
        cases hq
        have := hag.get t p hg
        cases p with
        | is v => exact this
        | such φ => rfl
/-- The new block. -/
theorem effs_new {sz d0 : Nat} {kr : PH} {ty : TypeId} {φ : PH → Value → Prop} {z : Array Value} (hd : o.dst = some d0) (hf : Nat.blt d0 n = true) (hg : o.guard = none) (hkr : Le kr k) (hl : Alc P e k o (fun b => .pointer (some ⟨b, 0, none⟩)) (.cells z ty (0, 0))) (hz : z.size = sz) :
    EffS P F n ops (XS F.w0.heap.size d0 sz kr ty φ) 0 o e k (.such fun _ _ => True) := by
  refine ⟨fun _ _ _ _ h => h, hg, fun a w k1 hk hs hX hsz hlo => ?_⟩
  refine (ex_value (hl a.eval w (evs_of hlo) (hs.sub.mono hk))).mono ?_
  rintro v w' ⟨rfl, rfl⟩
  have hn : k1 w.heap.size = none := hs.sub.none (Nat.le_refl _)
  refine ⟨k1, Le.refl _, hs.below (below_alloc _ _), ⟨Nat.le_trans hX.1 (by simp), fun _ => ⟨w.heap.size, z, ?_, ?_, hz, hn, by simp, hX.1, (hkr.trans hk).none hn⟩, fun h => by omega⟩, trivial⟩
  · rw [hd]
    exact put_getD_same (by rw [hsz]; simpa [Nat.blt_eq] using hf)
  · exact sub_alloc hs.sub _ _ _ (upd_same _ _ _)
/-- The store. -/
theorem effs_sto {t : TypeId} {dv sz bs d0 : Nat} {kr : PH} {ty : TypeId} {φ : PH → Value → Prop} {z : Value} [hi : TyI P t sz bs z] (hd : o.dst = none) (hg : o.guard = none) (hkr : Le kr k) (hop : o.op = .store t (.tmp d0) (.tmp dv)) (hv : get e dv = some (.such φ)) (hφ : ∀ k u, φ k u → ∃ vs : List Value, u = .agg vs.toArray ∧ vs.length = sz ∧ ∀ x ∈ vs, x.oneCell' = true) :
    EffS P F n ops (XS F.w0.heap.size d0 sz kr ty φ) 1 o e k (.such fun _ _ => True) := by
  refine ⟨fun _ _ _ _ h => h, hg, fun a w k1 hk hs hX hsz hlo => ?_⟩
  obtain ⟨b, c, h1, h2, h3, h4, h5, h6, h7⟩ := hX.2.1 rfl
  have hdv : dv ∈ o.looksAt ops := by
    unfold Oper.looksAt
    refine List.mem_append.2 (.inl ?_)
    rw [List.mem_filterMap]
    exact ⟨.tmp dv, by simp [hop, Op.operands], rfl⟩
  have hu := hlo dv hdv _ hv
  obtain ⟨vs, ev, hl, h8⟩ := hφ _ _ hu
  have e1 : a.eval (.tmp d0) = .pointer (some ⟨b, 0, none⟩) := h1
  have e2 : a.eval (.tmp dv) = .agg vs.toArray := ev
  obtain ⟨inf, hi1, hi2, _⟩ := hi.eq
  have hst := run_storeCells_at P b 0 ty vs 0 c w h2 (by omega) h8
  simp only [Nat.add_zero, Nat.zero_add] at hst
  have hrow : (c.toList.take 0 ++ vs ++ c.toList.drop vs.length).toArray = vs.toArray := by
    rw [List.drop_eq_nil_of_le (by simp; omega)]; simp
  have hrun : (execOp a.eval o).run P w = .ok .skip (w.setRow b vs.toArray) := by
    rw [← hrow]
    simp [execOp, hop, e1, e2, Instr.storeAt, Instr.sureAddr, storeVar, Value.cells, run_size hi1, hi2, hl, hst]
  refine (ex_skip hrun).mono ?_
  rintro u w' ⟨rfl, rfl⟩
  have hsize : (w.setRow b vs.toArray).heap.size = w.heap.size := by simp [World.setRow]
  refine ⟨k1, Le.refl _, ⟨hs.os, hs.tape, hs.output, by rw [hsize]; exact hs.size, fun i hi hmu => ?_, fun i ob hb => ?_, hs.keep⟩, ⟨by rw [hsize]; exact hX.1, fun h => by omega, fun _ => ⟨b, .agg vs.toArray, k1, ?_, setRow_heap w b c _ _ _ h2, ev ▸ hu, hkr.trans hk, fun i ob hb => ⟨by rw [hsize]; exact hs.sub.lt hb, hb⟩, h4, by rw [hsize]; exact h5, h6, h7⟩⟩, trivial⟩
  · rw [setRow_other w b i _ (by omega)]
    exact hs.old i hi hmu
  · have : i ≠ b := fun e => by rw [e, h4] at hb; cases hb
    rw [setRow_other w b i _ this]
    exact hs.sub i ob hb
  · rw [hd]; exact h1
end
/-- What an operation yields is told less exactly. -/
theorem loc_isv {P : Program} {n : Nat} {ops : Array Oper} {o : Oper} {e : Env} {k : PH} {v : Value} {φ : PH → Value → Prop} (h : Loc P n ops o e k (.is v)) (hg : wantedE ops e o = some true) (hm : (PV.such φ).Mono) (hφ : ∀ k', Le k k' → φ k' v) : Loc P n ops o e k (.such φ) := by
  refine ⟨hm, fun a w k1 hk hs hsz hlo => ?_⟩
  have := h.2 a w k1 hk hs hsz hlo
  rw [if_pos (wanted_of hlo hg)] at this ⊢
  refine this.mono ?_
  rintro u w' ⟨k', h1, h2, h3, h4⟩
  cases h4
  exact ⟨k', h1, h2, h3, hφ k' (hk.trans (h2.le hs))⟩
end Go.Wm
namespace Go.Wm
open Go.RowKit
/-- The first place that is not below. -/
def posF {α : Type} (f : α → Int) (l : List α) : Nat := (l.takeWhile fun x => decide (f x < 0)).length
/-- Does what is looked for stand there? -/
def metF {α : Type} (f : α → Int) (l : List α) : Bool := decide ((l[posF f l]?).map f = some 0)
theorem posF_eq {α : Type} {f : α → Int} : ∀ {l : List α} {n : Nat}, n ≤ l.length → (∀ q, (h : q < l.length) → q < n → f l[q] < 0) → (∀ h : n < l.length, ¬ f l[n] < 0) → posF f l = n
  | [], n, hn, _, _ => by simp at hn; subst hn; rfl
  | x :: r, 0, _, _, h2 => by
    have := h2 (by simp)
    simp only [List.getElem_cons_zero] at this
    unfold posF
    rw [List.takeWhile_cons_of_neg (by simpa using this)]
    rfl
  | x :: r, n + 1, hn, h1, h2 => by
    have h0 := h1 0 (by simp) (by omega)
    simp only [List.getElem_cons_zero] at h0
    unfold posF
    rw [List.takeWhile_cons_of_pos (by simpa using h0), List.length_cons]
    have := posF_eq (f := f) (l := r) (n := n) (by simpa using hn) (fun q hq hqn => by have := h1 (q + 1) (by simpa using hq) (by omega); simpa using this) (fun h => by have := h2 (by simpa using h); simpa using this)
    unfold posF at this
    rw [this]
theorem posF_le {α : Type} (f : α → Int) (l : List α) : posF f l ≤ l.length := (List.takeWhile_sublist _).length_le
theorem metF_lt {α : Type} {f : α → Int} {l : List α} (h : metF f l = true) : ∃ hl : posF f l < l.length, f l[posF f l] = 0 := by
  unfold metF at h
  have h := of_decide_eq_true h
  cases e : l[posF f l]? with
  | none => rw [e] at h; cases h
  | some x =>
    obtain ⟨hl, hx⟩ := List.getElem?_eq_some_iff.1 e
    rw [e] at h
    exact ⟨hl, by rw [hx]; simpa using h⟩
theorem u64_halfB {n : Nat} (h : n < 18446744073709551616) : IntKind.u64.wrap (n : Int) = (n : Int) := by
  rw [wrap_nat rfl, Nat.mod_eq_of_lt (by simpa [IntKind.bits] using h)]
end Go.Wm
namespace Go.Wm
open Go.RowKit
structure OrdL {α : Type} (ord : α → α → Int) : Prop where
  tr : ∀ a b c, ord a b < 0 → ord b c < 0 → ord a c < 0
  sw : ∀ a b, ord a b < 0 ↔ 0 < ord b a
  eqL : ∀ a b, ord a b = 0 → ∀ c, ord a c < 0 ↔ ord b c < 0
  eqR : ∀ a b, ord a b = 0 → ∀ c, ord c a < 0 ↔ ord c b < 0
def RightP {α : Type} (ord : α → α → Int) (may : α → Bool) (l : List α) : Prop := ∀ i, (h : i < l.length) → may l[i] = true ∧ (0 < i → ord l[i - 1] l[i] < 0)
instance {α : Type} (ord : α → α → Int) (may : α → Bool) (l : List α) : Decidable (RightP ord may l) := by unfold RightP; infer_instance
def putInL {α : Type} (ord : α → α → Int) (l : List α) (x : α) (there : Bool) : List α :=
  if metF (fun y => ord y x) l = true then (if there = true then l.set (posF (fun y => ord y x) l) x else l.take (posF (fun y => ord y x) l) ++ l.drop (posF (fun y => ord y x) l + 1))
  else (if there = true then l.take (posF (fun y => ord y x) l) ++ x :: l.drop (posF (fun y => ord y x) l) else l)
theorem pair_of_ord {α : Type} {ord : α → α → Int} (ho : OrdL ord) : ∀ {l : List α}, (∀ i, (h : i < l.length) → 0 < i → ord l[i - 1] l[i] < 0) → l.Pairwise fun a b => ord a b < 0
  | [], _ => List.Pairwise.nil
  | a :: l, h => by
    have ih := pair_of_ord ho (l := l) fun i hi h0 => by
      have := h (i + 1) (by simp; omega) (by omega)
      obtain ⟨j, rfl⟩ : ∃ j, i = j + 1 := ⟨i - 1, by omega⟩
      simpa using this
    refine List.pairwise_cons.2 ⟨fun b hb => ?_, ih⟩
    cases l with
    | nil => cases hb
    | cons c l =>
      have h1 := h 1 (by simp) (by omega)
      simp at h1
      rcases List.mem_cons.1 hb with rfl | hb
      · exact h1
      · exact ho.tr _ _ _ h1 ((List.pairwise_cons.1 ih).1 b hb)
theorem right_iff {α : Type} {ord : α → α → Int} (ho : OrdL ord) {may : α → Bool} {l : List α} : RightP ord may l ↔ (∀ x ∈ l, may x = true) ∧ l.Pairwise fun a b => ord a b < 0 := by
  constructor
  · intro h
    exact ⟨fun x hx => by obtain ⟨i, hi, rfl⟩ := List.getElem_of_mem hx; exact (h i hi).1, pair_of_ord ho fun i hi h0 => (h i hi).2 h0⟩
  · rintro ⟨h1, h2⟩ i hi
    exact ⟨h1 _ (List.getElem_mem hi), fun h0 => List.pairwise_iff_getElem.1 h2 (i - 1) i (by omega) hi (by omega)⟩
theorem take_below {α : Type} {f : α → Int} {l : List α} : ∀ y ∈ l.take (posF f l), f y < 0 := by
  intro y hy
  have e : l.take (posF f l) = l.takeWhile fun x => decide (f x < 0) := by
    unfold posF
    exact (List.prefix_iff_eq_take.1 (List.takeWhile_prefix _)).symm
  rw [e] at hy
  have h0 := @List.all_takeWhile _ (fun x => decide (f x < 0)) l
  rw [List.all_eq_true] at h0
  simpa using h0 y hy
theorem not_below {α : Type} {f : α → Int} : ∀ {l : List α} (h : posF f l < l.length), ¬ f l[posF f l] < 0
  | [], h => by simp at h
  | x :: l, h => by
    by_cases hx : f x < 0
    · have e : posF f (x :: l) = posF f l + 1 := by simp [posF, List.takeWhile_cons, hx]
      simp only [e] at h ⊢
      simpa using not_below (f := f) (l := l) (by simpa using h)
    · have e : posF f (x :: l) = 0 := by simp [posF, List.takeWhile_cons, hx]
      simp only [e]
      simpa using hx
theorem met_zero {α : Type} {f : α → Int} {l : List α} (h : posF f l < l.length) (hz : f l[posF f l] = 0) : metF f l = true := by
  unfold metF
  rw [List.getElem?_eq_getElem h]
  simp [hz]
/-- What stands from its place on is above it, if it is not there. -/
theorem drop_above {α : Type} {ord : α → α → Int} (ho : OrdL ord) {l : List α} {x : α} (hp : l.Pairwise fun a b => ord a b < 0) (hn : ¬ metF (fun y => ord y x) l = true) : ∀ y ∈ l.drop (posF (fun y => ord y x) l), ord x y < 0 := by
  intro y hy
  obtain ⟨j, hj, rfl⟩ := List.getElem_of_mem hy
  rw [List.length_drop] at hj
  have hlt : posF (fun y => ord y x) l < l.length := by omega
  have h1 : ¬ ord l[posF (fun y => ord y x) l] x < 0 := not_below (f := fun y => ord y x) hlt
  have h2 : ¬ ord l[posF (fun y => ord y x) l] x = 0 := fun e => hn (met_zero hlt e)
  have h3 : ord x l[posF (fun y => ord y x) l] < 0 := (ho.sw _ _).2 (by omega)
  rw [List.getElem_drop]
  rcases Nat.eq_zero_or_pos j with rfl | h0
  · simpa using h3
  · exact ho.tr _ _ _ h3 (List.pairwise_iff_getElem.1 hp _ _ hlt (by omega) (by omega))
end Go.Wm

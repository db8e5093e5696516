/-
  The walk's own words for this seat's calculus: steps inside regions, effects on rows of the call's own, readings of slices. Conditions: none beyond those of each law.
-/
import Derived.Test.YtapfmndcjcdcjaaOps2
import Derived.Test.YtapfmndcjcdcjaaAny
set_option linter.all false
namespace Go.Wm
open Go.RowKit

class Mixed (P : Program) : Prop where
  eq : P.follows .mixedOrders = true

section
variable {P : Program} {F : Fr} {n : Nat} {ops : Array Oper} {Q : Exit → Act → World → Prop} {rest : List Oper} {o : Oper} {e : Env} {k : PH}

/-! ### steps -/
theorem rs {v : Value} {d : Nat} (hd : o.dst = some d) (hf : Nat.blt d n = true) (hl : Loc P n ops o e k (.is v)) (h : RG P F n ops Q rest ((d, .is v) :: e) k) : RG P F n ops Q (o :: rest) e k :=
  rg_det (by rw [hd]; exact hf) hl (by rw [hd]; exact h)
theorem rv {φ : PH → Value → Prop} {d : Nat} (hd : o.dst = some d) (hf : Nat.blt d n = true) (hdet : det e = true) (hl : Loc P n ops o e k (.such φ)) (h : ∀ k', Le k k' → ∀ v, φ k' v → RG P F n ops Q rest ((d, .is v) :: e) k') : RG P F n ops Q (o :: rest) e k :=
  rg_such hdet (by rw [hd]; exact hf) hl (by rw [hd]; exact h)
/-- A new block: its number is one that nothing knew. -/
theorem ra {vf : Nat → Value} {obj : Obj} {d : Nat} (hd : o.dst = some d) (hf : Nat.blt d n = true) (hdet : det e = true) (hg : o.guard = none) (hl : Alc P e k o vf obj)
    (h : ∀ b, k b = none → F.w0.heap.size ≤ b → RG P F n ops Q rest ((d, .is (vf b)) :: e) (upd k b obj)) : RG P F n ops Q (o :: rest) e k := by
  intro a w ha hs
  unfold wpList
  rw [if_pos (by simp [Region.wanted, hg])]
  refine .inl (ex_value (hl a.eval w (evs_of (ops := ops) (ag_looks ha)) hs.sub) _ _ ?_)
  rintro v w' ⟨rfl, rfl⟩
  have hsz := hs.size
  refine h w.heap.size (hs.sub.none (Nat.le_refl _)) hsz _ _ ?_ (hs.step (below_alloc _ _) (agr_upd (Nat.le_refl _) _) (sub_alloc hs.sub _))
  rw [hd]
  exact (ha.heap (k' := upd k w.heap.size obj) hdet).put (d := some d) hf rfl
theorem ws {v : Value} {K : Env → Prop} {d : Nat} (hd : o.dst = some d) (hl : Loc P n ops o e k (.is v)) (h : WA P n ops k K rest ((d, .is v) :: e)) : WA P n ops k K (o :: rest) e :=
  wa_step hl (by rw [hd]; exact h)
theorem wv {φ : PH → Value → Prop} {K : Env → Prop} {d : Nat} (hd : o.dst = some d) (hl : Loc P n ops o e k (.such φ)) (h : WA P n ops k K rest ((d, .such φ) :: e)) : WA P n ops k K (o :: rest) e :=
  wa_step hl (by rw [hd]; exact h)

theorem St.weak {k' : PH} {w : World} (h : St F k' w) (hl : Le k k') (hk : ∀ b, b < F.w0.heap.size → ¬ F.mu b → k b = F.k0 b) : St F k w :=
  ⟨h.os, h.tape, h.output, h.size, h.old, h.sub.mono hl, hk⟩
theorem WA.mono' {K K' : Env → Prop} (hm : ∀ e, K e → K' e) : ∀ (l : List Oper) (e : Env), WA P n ops k K l e → WA P n ops k K' l e
  | [], e, h => hm e h
  | o :: r, e, ⟨p, hl, h⟩ => ⟨p, hl, WA.mono' hm r _ h⟩
/-- A region that draws its order, all of whose values are known outright. -/
theorem cg_any {id : Nat} {l : List Oper} [hm : Mixed P] (hok : okAny n l = true) (hdet : det e = true) (h : WA P n l.toArray k (fun e' => det e' = true ∧ EG F n (Q .normal) e' k) l e) : CG P F n Q (.region id l.toArray true) e k := by
  intro a w ha hs
  refine region_any (F := F) hm.eq hok (fun t q hg => by obtain ⟨v, rfl⟩ := det_get hdet hg; trivial) (WA.mono' (fun e' ⟨hd, hE⟩ => ?_) l e h) a w ha hs
  intro k' hle a' w' ha' hs'
  exact hE a' w' (ha'.heap hd) (hs'.weak hle hs.keep)
/-- A region that draws its order. -/
theorem cg_anyv {id : Nat} {l : List Oper} [hm : Mixed P] (hok : okAny n l = true) (hdet : det e = true) (h : WA P n l.toArray k (fun e' => ∀ k', Le k k' → EG F n (Q .normal) e' k') l e) : CG P F n Q (.region id l.toArray true) e k := by
  intro a w ha hs
  exact region_any (F := F) hm.eq hok (fun t q hg => by obtain ⟨v, rfl⟩ := det_get hdet hg; trivial) h a w ha hs
theorem wn (hd : det e = true) (h : EG F n (Q .normal) e k) : WA P n ops k (fun e' => det e' = true ∧ EG F n (Q .normal) e' k) [] e := ⟨hd, h⟩
theorem wnv (h : ∀ k', Le k k' → EG F n (Q .normal) e k') : WA P n ops k (fun e' => ∀ k', Le k k' → EG F n (Q .normal) e' k') [] e := h

/-! ### stores -/
theorem heap_setCell_at {w : World} {b off : Nat} {c : Array Value} {et : TypeId} {fr : Nat × Nat} {v : Value} (h : w.heap[b]? = some (.cells c et fr)) : (w.setCell ⟨b, off, none⟩ v).heap[b]? = some (.cells (c.setIfInBounds off v) et fr) := by
  simp [World.setCell, Array.getElem?_modify, h]
theorem St.turn {k : PH} {w w' : World} {b : Nat} {obj : Obj} (h : St F k w) (hown : F.w0.heap.size ≤ b ∨ F.mu b) (hos : w'.os = w.os) (ht : w'.tape = w.tape) (hout : w'.output = w.output) (hsz : w.heap.size ≤ w'.heap.size) (hb : w'.heap[b]? = some obj)
    (hne : ∀ i, i ≠ b → i < w.heap.size → w'.heap[i]? = w.heap[i]?) : St F (upd k b obj) w' := by
  refine ⟨hos.trans h.os, ht.trans h.tape, hout.trans h.output, Nat.le_trans h.size hsz, fun i hi hm => ?_, fun i o ho => ?_, fun i hi hm => ?_⟩
  · have : i ≠ b := by rintro rfl; rcases hown with h1 | h1; omega; exact hm h1
    rw [hne i this (Nat.lt_of_lt_of_le hi h.size)]
    exact h.old i hi hm
  · by_cases hib : i = b
    · subst hib
      rw [upd_same] at ho
      cases ho
      exact hb
    · rw [upd_other hib] at ho
      rw [hne i hib (h.sub.lt ho)]
      exact h.sub i o ho
  · have : i ≠ b := by rintro rfl; rcases hown with h1 | h1; omega; exact hm h1
    rw [upd_other this]
    exact h.keep i hi hm
/-- A store of one cell into a block of the call's own. -/
theorem rst {t : TypeId} {x y : Operand} {b off sz bs : Nat} {z : Value} {v : Value} {c : Array Value} {et : TypeId} (hd : o.dst = none) (hdet : det e = true) (hg : o.guard = none) [hi : TyI P t sz bs z] (hop : o.op = .store t x y) (hx : opv e x = some (.pointer (some ⟨b, off, none⟩))) (hy : opv e y = some v)
    (h1 : v.oneCell' = true) (hsz : Nat.beq sz 1 = true) (hk : k b = some (.cells c et (0, 0))) (hlt : off < c.size) (hown : F.w0.heap.size ≤ b ∨ F.mu b)
    (h : RG P F n ops Q rest e (upd k b (.cells (c.setIfInBounds off v) et (0, 0)))) : RG P F n ops Q (o :: rest) e k := by
  intro a w ha hs
  unfold wpList
  rw [if_pos (by simp [Region.wanted, hg])]
  have ev := evs_of (ops := ops) (o := o) (ag_looks ha)
  rw [hop] at ev
  have e1 := ev x (by simp [Op.operands]) _ hx
  have e2 := ev y (by simp [Op.operands]) _ hy
  have hb := hs.sub _ _ hk
  obtain ⟨inf, hi1, hi2, _⟩ := hi.eq
  have hsz1 : sz = 1 := Nat.eq_of_beq_eq_true hsz
  have hcs : v.cells = #[v] := by cases v <;> first | rfl | simp [Value.oneCell'] at h1
  have hc : w.cell? ⟨b, off, none⟩ = some c[off] := by
    simp only [World.cell?, hb, Option.isSome_none, Bool.false_eq_true, if_false]
    exact Array.getElem?_eq_getElem hlt
  have hfz : w.frozen? ⟨b, off, none⟩ = false := by simp [World.frozen?, hb]
  have hrun : (execOp a.eval o).run P w = .ok .skip (w.setCell ⟨b, off, none⟩ v) := by
    simp [execOp, hop, e1, e2, Instr.storeAt, Instr.sureAddr, storeVar, hcs, run_size hi1, hi2, hsz1, storeCells, addr_add, run_store P w _ v _ h1, hc, hfz]
  refine .inl (ex_skip hrun _ _ ?_)
  rintro u w' ⟨rfl, rfl⟩
  rw [hd]
  exact h _ _ (ha.heap hdet) (hs.turn hown rfl rfl rfl (by simp [World.setCell]) (heap_setCell_at hb) fun i hi _ => Below.heap_setCell _ _ _ _ hi)
/-- A store of a struct into a block of the call's own. -/
theorem rst_agg {t : TypeId} {x y : Operand} {b off sz bs : Nat} {z : Value} {vs : List Value} {c : Array Value} {et : TypeId} (hd : o.dst = none) (hdet : det e = true) (hg : o.guard = none) [hi : TyI P t sz bs z] (hop : o.op = .store t x y) (hx : opv e x = some (.pointer (some ⟨b, off, none⟩))) (hy : opv e y = some (.agg vs.toArray))
    (h1 : ∀ u ∈ vs, u.oneCell' = true) (hsz : vs.length = sz) (hk : k b = some (.cells c et (0, 0))) (hlt : off + vs.length ≤ c.size) (hown : F.w0.heap.size ≤ b ∨ F.mu b)
    (h : RG P F n ops Q rest e (upd k b (.cells (c.toList.take off ++ vs ++ c.toList.drop (off + vs.length)).toArray et (0, 0)))) : RG P F n ops Q (o :: rest) e k := by
  intro a w ha hs
  unfold wpList
  rw [if_pos (by simp [Region.wanted, hg])]
  have ev := evs_of (ops := ops) (o := o) (ag_looks ha)
  rw [hop] at ev
  have e1 := ev x (by simp [Op.operands]) _ hx
  have e2 := ev y (by simp [Op.operands]) _ hy
  have hb := hs.sub _ _ hk
  obtain ⟨inf, hi1, hi2, _⟩ := hi.eq
  have hst := run_storeCells_at P b off et vs 0 c w hb (by simpa using hlt) h1
  simp only [Nat.add_zero] at hst
  have hrun : (execOp a.eval o).run P w = .ok .skip (w.setRow b (c.toList.take off ++ vs ++ c.toList.drop (off + vs.length)).toArray) := by
    simp [execOp, hop, e1, e2, Instr.storeAt, Instr.sureAddr, storeVar, Value.cells, run_size hi1, hi2, hsz, hst]
  refine .inl (ex_skip hrun _ _ ?_)
  rintro u w' ⟨rfl, rfl⟩
  rw [hd]
  exact h _ _ (ha.heap hdet) (hs.turn hown rfl rfl rfl (by simp [World.setRow]) (setRow_heap w b c _ et _ hb) fun i hi _ => setRow_other w b i _ hi)

/-! ### rows of the call's own, which grow -/
/-- v is a slice of n elements of type et (sz cells each) that owns the cells xs: nil, or from the head of a block from N on. -/
def Row (N : Nat) (k : PH) (et sz : Nat) (v : Value) (m : Nat) (xs : List Value) : Prop :=
  xs.length = m * sz ∧ ((v = .slice none 0 0 ∧ m = 0) ∨ ∃ g cap cur, v = .slice (some ⟨g, 0, none⟩) m cap ∧ N ≤ g ∧ k g = some (.cells cur et (0, 0)) ∧ m ≤ cap ∧ cap ≤ maxLen ∧ cur.size = cap * sz ∧ cur.toList.take (m * sz) = xs)
/-- h knows nothing of v's own block. -/
def Apart (h : PH) (v : Value) : Prop := ∀ g, v.ownBlock = some g → h g = none
def Turn (k k' : PH) (v v' : Value) : Prop := ∀ h, Le h k → Apart h v → Le h k' ∧ Apart h v'
theorem row_nil (N : Nat) (k : PH) (et sz : Nat) : Row N k et sz (.slice none 0 0) 0 [] := ⟨by simp, .inl ⟨rfl, rfl⟩⟩
theorem apart_nil (h : PH) (m c : Nat) : Apart h (.slice none m c) := fun g hg => by simp [Value.ownBlock] at hg
theorem Row.le {N : Nat} {k k' : PH} {et sz : Nat} {v : Value} {m : Nat} {xs : List Value} (h : Row N k et sz v m xs) (hl : Le k k') : Row N k' et sz v m xs := by
  obtain ⟨h1, h2⟩ := h
  refine ⟨h1, ?_⟩
  rcases h2 with h2 | ⟨g, cap, cur, e1, e2, e3, r⟩
  · exact .inl h2
  · exact .inr ⟨g, cap, cur, e1, e2, hl _ _ e3, r⟩
theorem grownCap_bd (w : World) (need old : Nat) (et : TypeId) (h : need ≤ maxLen) : need ≤ grownCap w need old et ∧ grownCap w need old et ≤ maxLen := by
  unfold maxLen at *
  unfold grownCap Question.cut
  simp only
  have : 0 < 2 ^ 63 - need := by omega
  have h2 := Nat.mod_lt (w.tape w.drawn (.appendCap need old et)) this
  omega
/-- append of m elements, whose cells are known, to a row of the call's own. -/
theorem rap {t et : TypeId} {sz bs : Nat} {z : Value} {d : Nat} {x y : Operand} {v : Value} {m c j : Nat} {bx ox : Nat} {xs news : List Value} (hd : o.dst = some d) (hf : Nat.blt d n = true) (hdet : det e = true) (hg : o.guard = none) [ht : TyU P t (.slice et)] [hi : TyI P et sz bs z]
    (hop : o.op = .call { callee := .builtin .append, args := #[x, y], argTypes := #[t, t] }) (hx : opv e x = some v) (hy : opv e y = some (.slice (some ⟨bx, ox, none⟩) j c))
    (hrow : Row F.w0.heap.size k et sz v m xs) (hnews : Cells k bx ox news) (hl : news.length = j * sz) (h1 : ∀ u ∈ news, u.oneCell' = true) (hz : Nat.beq z.cells.size sz = true) (hpos : Nat.blt 0 sz = true) (hm : m + j ≤ maxLen) (hby : (m + j) * bs ≤ 140737488355328)
    (h : ∀ v' k', Row F.w0.heap.size k' et sz v' (m + j) (xs ++ news) → Turn k k' v v' → RG P F n ops Q rest ((d, .is v') :: e) k') : RG P F n ops Q (o :: rest) e k := by
  intro a w ha hs
  unfold wpList
  rw [if_pos (by simp [Region.wanted, hg])]
  have ev := evs_of (ops := ops) (o := o) (ag_looks ha)
  rw [hop] at ev
  have e1 := ev x (by simp [Op.operands, Call.operands]) _ hx
  have e2 := ev y (by simp [Op.operands, Call.operands]) _ hy
  obtain ⟨i, hi1, hi2, hi3, hi4⟩ := hi.eq
  subst hi2
  subst hi3
  have hzs : z.cells.size = i.size := Nat.eq_of_beq_eq_true hz
  have hpos' : 0 < i.size := by simpa [Nat.blt_eq] using hpos
  have hnews' : ∀ q u, news[q]? = some u → w.cell? ((⟨bx, ox, none⟩ : Addr).add q) = some u := fun q u hq => by rw [addr_add]; exact hnews.cell hs.sub hq
  have hexec : ∀ v' w', (Builtin.append_ #[t, t] o.type #[v, .slice (some ⟨bx, ox, none⟩) j c]).run P w = .ok v' w' → (execOp a.eval o).run P w = .ok (.value v') w' := by
    intro v' w' hr
    simp [execOp, hop, resolve, invoke, builtin, e1, e2, hr]
  have put : ∀ v' k', Ag n ((d, .is v') :: e) k' (a.put (some d) v') := fun v' k' => (ha.heap (k' := k') hdet).put (d := some d) hf rfl
  obtain ⟨hxl, hcase⟩ := hrow
  have h63 : maxLen = 9223372036854775807 := rfl
  have hlen : (xs ++ news).length = (m + j) * i.size := by rw [List.length_append, hxl, hl, Nat.add_mul]
  rcases hcase with ⟨rfl, rfl⟩ | ⟨g, cap, cur, rfl, hgN, hgk, hmc, hcm, hcs, htake⟩
  · have hxs : xs = [] := by simpa using hxl
    subst hxs
    by_cases hj : j = 0
    · subst hj
      have hn0 : news = [] := by simpa using hl
      subst hn0
      have hr : (Builtin.append_ #[t, t] o.type #[.slice none 0 0, .slice (some ⟨bx, ox, none⟩) 0 c]).run P w = .ok (.slice none 0 0) w := by
        have := run_firstCells_some (P := P) w i.size 0 ⟨bx, ox, none⟩ 0 c [] (by simp) (by simp)
        simp [Builtin.append_, run_underlying ht.eq, run_size hi1, Builtin.lenOf, this]
      refine .inl (ex_value (hexec _ _ hr) _ _ ?_)
      rintro u w' ⟨rfl, rfl⟩
      rw [hd]
      exact h _ k ⟨by simp, .inl ⟨rfl, rfl⟩⟩ (fun h hle hap => ⟨hle, hap⟩) _ _ (put _ _) hs
    · have hr := run_append_nil (P := P) w t o.type et i z ht.eq hi1 hi4 ⟨bx, ox, none⟩ j c news hl hnews' (by omega) (by omega) (by simp at hby; omega)
      refine .inl (ex_value (hexec _ _ hr) _ _ ?_)
      rintro u w' ⟨rfl, rfl⟩
      rw [hd]
      have hcap := grownCap_bd w j 0 et (by omega)
      have hb : Below w.heap.size w (w.drew.alloc (.cells (news.toArray ++ Builtin.zeroCells z.cells (grownCap w j 0 et - j)) et)) := (Below.refl _ w).drew.alloc (Nat.le_refl _) _
      refine h _ (upd k w.heap.size (.cells (news.toArray ++ Builtin.zeroCells z.cells (grownCap w j 0 et - j)) et)) ⟨by simpa using hl, .inr ⟨w.heap.size, _, _, by simp, hs.size, upd_same _ _ _, by omega, hcap.2, ?_, ?_⟩⟩ ?_ _ _ (put _ _) (hs.step hb (agr_upd (Nat.le_refl _) _) (sub_alloc (hs.sub.below (below_drawn w _)) _))
      · rw [Array.size_append, size_zeroCells, hzs, List.size_toArray, hl, ← Nat.add_mul]
        congr 1
        omega
      · simp [← hl]
      · intro h' hle hap
        have hn : h' w.heap.size = none := (hs.sub.mono hle).none (Nat.le_refl _)
        exact ⟨hle.upd hn, fun g' hg' => by simp [Value.ownBlock] at hg'; subst hg'; exact hn⟩
  · have hgw := hs.sub _ _ hgk
    by_cases hroom : m + j ≤ cap
    · have hfit : m * i.size + news.length ≤ cur.size := by rw [hl, hcs, ← Nat.add_mul]; exact Nat.mul_le_mul_right _ hroom
      have hr := run_append_room (P := P) w t o.type et i ht.eq hi1 g m cap cur hgw ⟨bx, ox, none⟩ j c news hl hnews' h1 hroom hfit
      refine .inl (ex_value (hexec _ _ hr) _ _ ?_)
      rintro u w' ⟨rfl, rfl⟩
      rw [hd]
      refine h _ (upd k g (.cells (cur.toList.take (m * i.size) ++ news ++ cur.toList.drop (m * i.size + news.length)).toArray et (0, 0))) ⟨hlen, .inr ⟨g, cap, _, rfl, hgN, upd_same _ _ _, hroom, hcm, ?_, ?_⟩⟩ ?_ _ _ (put _ _)
        (hs.turn (.inl hgN) rfl rfl rfl (by simp [World.setRow]) (setRow_heap w g cur _ et _ hgw) fun q hq _ => setRow_other w g q _ hq)
      · have : cur.toList.length = cap * i.size := by simpa using hcs
        simp only [List.size_toArray, List.length_append, List.length_take, List.length_drop, this]
        rw [Array.length_toList] at this
        omega
      · have h3 : (cur.toList.take (m * i.size)) = xs := htake
        rw [h3, show (m + j) * i.size = (xs ++ news).length from hlen.symm]
        exact List.take_left' rfl
      · intro h' hle hap
        have hn : h' g = none := hap g (by simp [Value.ownBlock])
        exact ⟨hle.upd hn, fun g' hg' => hap g' hg'⟩
    · have hold : ∀ q u, xs[q]? = some u → w.cell? ((⟨g, 0, none⟩ : Addr).add q) = some u := by
        intro q u hq
        rw [addr_add]
        simp only [World.cell?, hgw, Option.isSome_none, Bool.false_eq_true, if_false, Nat.zero_add]
        rw [← htake, List.getElem?_take] at hq
        split at hq
        · simpa using hq
        · cases hq
      have hfit : Builtin.nextslicecap (m + j) cap * i.bytes ≤ 281474976710656 := growslice_fits (by omega) hby
      have hr := run_append_grow (P := P) w t o.type et i z ht.eq hi1 hi4 ⟨g, 0, none⟩ m cap xs hxl hold ⟨bx, ox, none⟩ j c news hl hnews' (by omega) (by omega) hfit
      refine .inl (ex_value (hexec _ _ hr) _ _ ?_)
      rintro u w' ⟨rfl, rfl⟩
      rw [hd]
      have hcap := grownCap_bd w (m + j) cap et hm
      have hb : Below w.heap.size w (w.drew.alloc (.cells (xs.toArray ++ news.toArray ++ Builtin.zeroCells z.cells (grownCap w (m + j) cap et - (m + j))) et)) := (Below.refl _ w).drew.alloc (Nat.le_refl _) _
      refine h _ (upd k w.heap.size (.cells (xs.toArray ++ news.toArray ++ Builtin.zeroCells z.cells (grownCap w (m + j) cap et - (m + j))) et)) ⟨hlen, .inr ⟨w.heap.size, _, _, by simp, hs.size, upd_same _ _ _, hcap.1, hcap.2, ?_, ?_⟩⟩ ?_ _ _ (put _ _)
        (hs.step hb (agr_upd (Nat.le_refl _) _) (sub_alloc (hs.sub.below (below_drawn w _)) _))
      · rw [Array.size_append, size_zeroCells, hzs, Array.size_append, List.size_toArray, List.size_toArray, hl, hxl, ← Nat.add_mul, ← Nat.add_mul]
        congr 1
        omega
      · rw [show (m + j) * i.size = (xs ++ news).length from hlen.symm]
        simp only [Array.toList_append, List.toList_toArray]
        exact List.take_left' rfl
      · intro h' hle hap
        have hn : h' w.heap.size = none := (hs.sub.mono hle).none (Nat.le_refl _)
        exact ⟨hle.upd hn, fun g' hg' => by simp [Value.ownBlock] at hg'; subst hg'; exact hn⟩
end
end Go.Wm
namespace Go.Wm
section
variable {P : Program} {F : Fr} {n : Nat} {Q : Exit → Act → World → Prop} {e : Env} {k : PH}
/-- The round's end, where the loop begins anew. -/
theorem eg_again {ι : Type} {I : ι → Env → PH → Prop} {μ : ι → Nat} {m : Nat} (j : ι) (e' : Env) (hI : I j e' k) (hm : μ j < m) (hle : EnvLe e' e) :
    EG F n (Exit.then (fun a w => ∃ j e' k', I j e' k' ∧ μ j < m ∧ Ag n e' k' a ∧ St F k' w) Q .normal) e k :=
  fun _ _ ha hs => ⟨j, e', k, hI, hm, ha.le hle, hs⟩
end
end Go.Wm

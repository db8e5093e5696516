/-
  Copies, appends that find no room, and appends that do, of rows of the call's own; two slices in two blocks do not overlap. Conditions: none beyond those of each law.
-/
import Derived.Test.YtbhgbfhgdccghaaGreatCoB
import Derived.Lib.AppendZerosOnto
import Derived.Lib.Overlaps
import Derived.Laws.CopyRow
set_option linter.all false
namespace Go.Wm
variable [Dfr]
open Go.RowKit

section
variable {P : Program} {F : Fr} {n : Nat} {ops : Array Oper} {Q : Exit → Act → World → Prop} {rest : List Oper} {o : Oper} {e : Env} {k : PH}
/-- An operation whose run is known in each world. -/
theorem r_run {f : World → Value → World → PH → Prop} (hf : fits n o.dst = true) (hdet : det e = true) (hg : o.guard = none)
    (hrun : ∀ a w, Ag n e k a → St F k w → Evs e a.eval o.op.operands.toList → ∃ v w' k', (execOp a.eval o).run P w = .ok (.value v) w' ∧ St F k' w' ∧ f w v w' k')
    (h : ∀ w v w' k', f w v w' k' → RG P F n ops Q rest (set e o.dst (.is v)) k') : RG P F n ops Q (o :: rest) e k := by
  intro a w ha hst
  unfold wpList
  rw [if_pos (by simp [Region.wanted, hg])]
  obtain ⟨v, w', k', hr, hs, hfv⟩ := hrun a w ha hst (evs_of (ops := ops) (o := o) (ag_looks ha))
  refine .inl (ex_value hr _ _ ?_)
  rintro u w'' ⟨rfl, rfl⟩
  exact h _ _ _ _ hfv _ _ ((ha.heap hdet).put hf rfl) hs
theorem run_copy_any (w : World) (dT sT ty elem : TypeId) (g o dLen dCap : Nat) (a : Addr) (sLen sCap sz : Nat) (cur : Array Value) (t : TypeId) (cs : List Value)
    (hu : P.underlying dT = some (.slice elem)) (hs : (P.info? elem).map (·.size) = some sz)
    (hg : w.heap[g]? = some (.cells cur t (0, 0))) (hn : cs.length = Nat.min sLen dLen * sz)
    (hsrc : ∀ j v, cs[j]? = some v → w.cell? (a.add j) = some v) (hfit : o + cs.length ≤ cur.size) (h1 : ∀ v ∈ cs, v.oneCell' = true) :
    (Builtin.copy_ #[dT, sT] ty #[.slice (some ⟨g, o, none⟩) dLen dCap, .slice (some a) sLen sCap]).run P w =
      .ok (goInt (Nat.min sLen dLen)) (w.setRow g (cur.toList.take o ++ cs ++ cur.toList.drop (o + cs.length)).toArray) := by
  have hl := run_loadCells_list (P := P) w a cs hsrc
  have hst := run_storeCells_at P g o t cs 0 cur w hg (by simpa using hfit) h1
  cases hq : P.info? elem with
  | none => simp [hq] at hs
  | some i =>
    have hi : i.size = sz := by simpa [hq] using hs
    simp [Builtin.copy_, run_underlying hu, Builtin.lenOf, Builtin.firstCells, sizeOf, typeInfo, hq, hi, ← hn, hl, hst]
/-- 'copy' into a block of the call's own. -/
theorem r_copy {t t' et : TypeId} {sz bs : Nat} {z : Value} {x y : Operand} {g o1 m1 c1 b2 o2 m2 c2 : Nat} {cur : Array Value} {et' : TypeId} {news : List Value} [ht : TyU P t (.slice et)] [hi : TyI P et sz bs z] (hf : fits n o.dst = true) (hdet : det e = true) (hg : o.guard = none)
    (hop : o.op = .call { callee := .builtin .copy, args := #[x, y], argTypes := #[t, t'] }) (hx : opv e x = some (.slice (some ⟨g, o1, none⟩) m1 c1)) (hy : opv e y = some (.slice (some ⟨b2, o2, none⟩) m2 c2))
    (hk : k g = some (.cells cur et' (0, 0))) (hc : Cells k b2 o2 news) (hl : news.length = Nat.min m2 m1 * sz) (hfit : o1 + news.length ≤ cur.size) (h1 : ∀ u ∈ news, u.oneCell' = true) (hown : F.w0.heap.size ≤ g ∨ F.mu g)
    (h : ∀ k', Turn1 k k' g → k' g = some (.cells (cur.toList.take o1 ++ news ++ cur.toList.drop (o1 + news.length)).toArray et' (0, 0)) → RG P F n ops Q rest (set e o.dst (.is (goInt (Nat.min m2 m1)))) k') : RG P F n ops Q (o :: rest) e k := by
  refine r_run (f := fun _ v _ k' => v = goInt (Nat.min m2 m1) ∧ k' = upd k g (.cells (cur.toList.take o1 ++ news ++ cur.toList.drop (o1 + news.length)).toArray et' (0, 0))) hf hdet hg ?_ ?_
  · intro a w ha hst ev
    rw [hop] at ev
    have e1 := ev x (by simp [Op.operands, Call.operands]) _ hx
    have e2 := ev y (by simp [Op.operands, Call.operands]) _ hy
    obtain ⟨i, hi1, hi2, hi3, hi4⟩ := hi.eq
    have hb := hst.sub _ _ hk
    have hr := run_copy_any (P := P) w t t' o.type et g o1 m1 c1 ⟨b2, o2, none⟩ m2 c2 sz cur et' news ht.eq (by rw [hi1, Option.map_some, hi2]) hb hl (fun j u hj => by rw [addr_add]; exact hc.cell hst.sub hj) hfit h1
    refine ⟨_, w.setRow g (cur.toList.take o1 ++ news ++ cur.toList.drop (o1 + news.length)).toArray, _, ?_, ?_, rfl, rfl⟩
    · simp [execOp, hop, resolve, invoke, builtin, e1, e2, hr]
    · exact hst.turn hown rfl rfl rfl (by simp [World.setRow]) (setRow_heap w g cur _ et' _ hb) fun j hj _ => setRow_other w g j _ hj
  · rintro w v w' k' ⟨rfl, rfl⟩
    exact h _ (turn1_upd _ _ _) (upd_same _ _ _)
/-- 'append' into a block of the call's own that has room. -/
theorem r_appRoom {t et : TypeId} {sz bs : Nat} {z : Value} {x y : Operand} {g m cap b2 o2 j c2 d : Nat} {cur : Array Value} {news : List Value} [ht : TyU P t (.slice et)] [hi : TyI P et sz bs z] (hd : o.dst = some d) (hf : Nat.blt d n = true) (hdet : det e = true) (hg : o.guard = none)
    (hop : o.op = .call { callee := .builtin .append, args := #[x, y], argTypes := #[t, t] }) (hx : opv e x = some (.slice (some ⟨g, 0, none⟩) m cap)) (hy : opv e y = some (.slice (some ⟨b2, o2, none⟩) j c2))
    (hk : k g = some (.cells cur et (0, 0))) (hc : Cells k b2 o2 news) (hl : news.length = j * sz) (hroom : m + j ≤ cap) (hcur : cur.size = cap * sz) (h1 : ∀ u ∈ news, u.oneCell' = true) (hown : F.w0.heap.size ≤ g ∨ F.mu g)
    (h : ∀ k', Turn1 k k' g → k' g = some (.cells (cur.toList.take (m * sz) ++ news ++ cur.toList.drop (m * sz + news.length)).toArray et (0, 0)) → RG P F n ops Q rest ((d, .is (.slice (some ⟨g, 0, none⟩) (m + j) cap)) :: e) k') : RG P F n ops Q (o :: rest) e k := by
  refine r_run (f := fun _ v _ k' => v = .slice (some ⟨g, 0, none⟩) (m + j) cap ∧ k' = upd k g (.cells (cur.toList.take (m * sz) ++ news ++ cur.toList.drop (m * sz + news.length)).toArray et (0, 0))) (by rw [hd]; exact hf) hdet hg ?_ ?_
  · intro a w ha hst ev
    rw [hop] at ev
    have e1 := ev x (by simp [Op.operands, Call.operands]) _ hx
    have e2 := ev y (by simp [Op.operands, Call.operands]) _ hy
    obtain ⟨i, hi1, hi2, hi3, hi4⟩ := hi.eq
    subst hi2
    have hb := hst.sub _ _ hk
    have hr := run_append_room (P := P) w t o.type et i ht.eq hi1 g m cap cur hb ⟨b2, o2, none⟩ j c2 news hl (fun q u hq => by rw [addr_add]; exact hc.cell hst.sub hq) h1 hroom (by rw [hl, hcur, ← Nat.add_mul]; exact Nat.mul_le_mul_right _ hroom)
    refine ⟨_, w.setRow g (cur.toList.take (m * i.size) ++ news ++ cur.toList.drop (m * i.size + news.length)).toArray, _, ?_, ?_, rfl, rfl⟩
    · simp [execOp, hop, resolve, invoke, builtin, e1, e2, hr]
    · exact hst.turn hown rfl rfl rfl (by simp [World.setRow]) (setRow_heap w g cur _ et _ hb) fun j hj _ => setRow_other w g j _ hj
  · rintro w v w' k' ⟨rfl, rfl⟩
    rw [hd]
    exact h _ (turn1_upd _ _ _) (upd_same _ _ _)
theorem st_alloc {k : PH} {w w' : World} {ob : Obj} (hst : St F k w) (hb : Below w.heap.size w w') (hnew : w'.heap[w.heap.size]? = some ob) : St F (upd k w.heap.size ob) w' := by
  refine hst.step hb (agr_upd (Nat.le_refl _) _) fun b ob' hbo => ?_
  by_cases hbe : b = w.heap.size
  · subst hbe
    rw [upd_same] at hbo
    cases hbo
    exact hnew
  · rw [upd_other hbe] at hbo
    rw [hb.block b (hst.sub.lt hbo)]
    exact hst.sub b ob' hbo
/-- The cells that a slice holds: none, or those of a block. -/
def Holds (k : PH) (base : Option Addr) (xs : List Value) : Prop := xs = [] ∨ ∃ b off, base = some ⟨b, off, none⟩ ∧ Cells k b off xs
theorem Holds.le {k k' : PH} {base : Option Addr} {xs : List Value} (h : Holds k base xs) (hl : Le k k') : Holds k' base xs := by
  rcases h with h | ⟨b, off, h1, h2⟩
  · exact .inl h
  · exact .inr ⟨b, off, h1, h2.le hl⟩
theorem Holds.first {k : PH} {base : Option Addr} {xs : List Value} (h : Holds k base xs) {w : World} (hs : Sub k w) {m c sz : Nat} (hl : xs.length = m * sz) (hpos : 0 < sz) :
    (Builtin.firstCells sz m (.slice base m c)).run P w.drew = .ok xs.toArray w.drew := by
  rcases h with rfl | ⟨b, off, rfl, hx⟩
  · have hm : m = 0 := by
      rcases Nat.eq_zero_or_pos m with h | h
      · exact h
      · have := Nat.mul_pos h hpos
        simp at hl
        omega
    subst hm
    cases base with
    | none => exact run_firstCells_none (P := P) (w := w.drew) sz 0 0 c
    | some ad => exact run_firstCells_some (P := P) w.drew sz 0 ad 0 c [] (by simp) (fun j u hj => by simp at hj)
  · exact run_firstCells_some (P := P) w.drew sz m ⟨b, off, none⟩ m c xs hl (fun j u hj => by rw [addr_add]; exact hx.cell (w := w.drew) hs hj)
theorem Sl.holds {α : Type} {T : Ty α} {k : PH} {a : Option Addr} {c : Nat} {l : List α} (h : Sl T k a c l) : ∃ css, Pieces T k css l ∧ Holds k a css.flatten := by
  by_cases hne : l = []
  · subst hne
    exact ⟨[], Pieces.nil T k, .inl rfl⟩
  · cases ha : a with
    | none =>
      have := h.nil ha
      have := h.cap
      exact absurd (List.length_eq_zero_iff.1 (by omega)) hne
    | some ad =>
      obtain ⟨b, off, sp⟩ := ad
      subst ha
      obtain ⟨hsp, css, hp, hc⟩ := h.pieces hne
      subst hsp
      exact ⟨css, hp, .inr ⟨b, off, rfl, hc⟩⟩
/-- 'append' of zeros to what has no room: a new row. -/
theorem r_appZ {t tn et : TypeId} {kn ki : IntKind} {sz bs : Nat} {z : Value} {x y : Operand} {base : Option Addr} {m cap j d : Nat} {xs : List Value} [ht : TyU P t (.slice et)] [htn : TyU P tn (.int kn)] [hi : TyI P et sz bs z] (hd : o.dst = some d) (hf : Nat.blt d n = true) (hdet : det e = true) (hg : o.guard = none)
    (hop : o.op = .call { callee := .builtin .append, args := #[x, y], argTypes := #[t, tn] }) (hx : opv e x = some (.slice base m cap)) (hy : opv e y = some (.int ki (j : Int))) (hH : Holds k base xs) (hl : xs.length = m * sz) (h0 : 0 < j) (hs : Nat.blt 0 sz = true) (hz : Nat.beq z.cells.size sz = true) (hgr : cap < m + j) (h63 : m + j ≤ maxLen) (hby : (m + j) * bs ≤ 140737488355328)
    (h : ∀ g cap' cur k', F.w0.heap.size ≤ g → k g = none → Le k k' → k' g = some (.cells cur et (0, 0)) → m + j ≤ cap' → cap' ≤ maxLen → cur.size = cap' * sz → cur.toList.take (m * sz) = xs → RG P F n ops Q rest ((d, .is (.slice (some ⟨g, 0, none⟩) (m + j) cap')) :: e) k') : RG P F n ops Q (o :: rest) e k := by
  refine r_run (f := fun w v _ k' => ∃ g cap' cur, v = .slice (some ⟨g, 0, none⟩) (m + j) cap' ∧ F.w0.heap.size ≤ g ∧ k g = none ∧ Le k k' ∧ k' g = some (.cells cur et (0, 0)) ∧ m + j ≤ cap' ∧ cap' ≤ maxLen ∧ cur.size = cap' * sz ∧ cur.toList.take (m * sz) = xs) (by rw [hd]; exact hf) hdet hg ?_ ?_
  · intro a w ha hst ev
    rw [hop] at ev
    have e1 := ev x (by simp [Op.operands, Call.operands]) _ hx
    have e2 := ev y (by simp [Op.operands, Call.operands]) _ hy
    obtain ⟨i, hi1, hi2, hi3, hi4⟩ := hi.eq
    subst hi2
    subst hi3
    have hzs : z.cells.size = i.size := Nat.eq_of_beq_eq_true hz
    have hpos' : 0 < i.size := by simpa [Nat.blt_eq] using hs
    have h63' : maxLen = 9223372036854775807 := rfl
    have hjb : j * i.bytes ≤ (m + j) * i.bytes := Nat.mul_le_mul_right _ (by omega)
    have hr := Lib.run_append_grow_zeros (P := P) w t tn o.type et i z ki kn ht.eq htn.eq hi1 hi4 base m cap xs (hH.first hst.sub hl hpos') j h0 hpos' hgr (by omega) (by omega) (growslice_fits hgr hby)
    have hcap := grownCap_bd w (m + j) cap et h63
    obtain ⟨ob, hob⟩ : ∃ ob, ob = Obj.cells (xs.toArray ++ Builtin.zeroCells z.cells j ++ Builtin.zeroCells z.cells (grownCap w (m + j) cap et - (m + j))) et := ⟨_, rfl⟩
    rw [← hob] at hr
    have hb : Below w.heap.size w (w.drew.alloc ob) := (Below.refl _ w).drew.alloc (Nat.le_refl _) _
    have hnew : (w.drew.alloc ob).heap[w.heap.size]? = some ob := by
      show (w.heap.push _)[w.heap.size]? = _
      simp
    refine ⟨_, _, upd k w.heap.size ob, ?_, st_alloc hst hb hnew, w.heap.size, _, _, rfl, hst.size, hst.sub.none (Nat.le_refl _), le_new (hst.sub.none (Nat.le_refl _)) _, by rw [upd_same, hob], hcap.1, hcap.2, ?_, ?_⟩
    · simp [execOp, hop, resolve, invoke, builtin, e1, e2, hr]
    · rw [Array.size_append, Array.size_append, size_zeroCells, size_zeroCells, hzs, List.size_toArray, hl, ← Nat.add_mul, ← Nat.add_mul]
      congr 1
      omega
    · simp only [Array.toList_append, List.toList_toArray]
      rw [List.append_assoc, List.take_left' hl]
  · rintro w v w' k' ⟨g, cap', cur, rfl, h1, h2, h3, h4, h5, h6, h7, h8⟩
    rw [hd]
    exact h g cap' cur k' h1 h2 h3 h4 h5 h6 h7 h8
theorem appNew_world {k : PH} {t ty et : TypeId} {sz bs : Nat} {z : Value} {base : Option Addr} {m cap b2 o2 j c2 : Nat} {xs news : List Value} [ht : TyU P t (.slice et)] [hi : TyI P et sz bs z] {w : World} (hs : Sub k w) (hH : Holds k base xs) (hl : xs.length = m * sz) (hnil : base = none → cap = 0) (hc : Cells k b2 o2 news) (hln : news.length = j * sz) (h0 : 0 < j) (hpos : Nat.blt 0 sz = true) (hz : Nat.beq z.cells.size sz = true) (hmc : m ≤ cap) (hgr : cap < m + j) (h63 : m + j ≤ maxLen) (hby : (m + j) * bs ≤ 140737488355328) :
    ∃ v ob, (Builtin.append_ #[t, t] ty #[.slice base m cap, .slice (some ⟨b2, o2, none⟩) j c2]).run P w = .ok v (w.drew.alloc ob) ∧ v.ownBlock = some w.heap.size ∧ Below w.heap.size w (w.drew.alloc ob) ∧ (w.drew.alloc ob).heap[w.heap.size]? = some ob ∧ ∀ N k', N ≤ w.heap.size → k' w.heap.size = some ob → Row N k' et sz v (m + j) (xs ++ news) := by
  obtain ⟨i, hi1, hi2, hi3, hi4⟩ := hi.eq
  subst hi2
  subst hi3
  have hzs : z.cells.size = i.size := Nat.eq_of_beq_eq_true hz
  have hpos' : 0 < i.size := by simpa [Nat.blt_eq] using hpos
  have h63' : maxLen = 9223372036854775807 := rfl
  have hcap := grownCap_bd w (m + j) cap et h63
  obtain ⟨ob, hob⟩ : ∃ ob, ob = Obj.cells (xs.toArray ++ news.toArray ++ Builtin.zeroCells z.cells (grownCap w (m + j) cap et - (m + j))) et := ⟨_, rfl⟩
  have hb : Below w.heap.size w (w.drew.alloc ob) := (Below.refl _ w).drew.alloc (Nat.le_refl _) _
  have hnew : (w.drew.alloc ob).heap[w.heap.size]? = some ob := by
    show (w.heap.push _)[w.heap.size]? = _
    simp
  have hn' : ∀ q u, news[q]? = some u → w.cell? ((⟨b2, o2, none⟩ : Addr).add q) = some u := fun q u hq => by rw [addr_add]; exact hc.cell hs hq
  have hr : (Builtin.append_ #[t, t] ty #[.slice base m cap, .slice (some ⟨b2, o2, none⟩) j c2]).run P w = .ok (.slice (some ⟨w.heap.size, 0, none⟩) (m + j) (grownCap w (m + j) cap et)) (w.drew.alloc ob) := by
    cases base with
    | none =>
      have hcap0 := hnil rfl
      have hm0 : m = 0 := by omega
      subst hcap0
      subst hm0
      have hx0 : xs = [] := by simpa using hl
      subst hx0
      have := run_append_nil (P := P) w t ty et i z ht.eq hi1 hi4 ⟨b2, o2, none⟩ j c2 news hln hn' h0 (by omega) (by simp at hby; omega)
      rw [this, hob]
      simp
    | some ad =>
      have hxs : ∀ q u, xs[q]? = some u → w.cell? (ad.add q) = some u := fun q u hq => by
        rcases hH with rfl | ⟨b, off, e, hx⟩
        · simp at hq
        · cases e
          rw [addr_add]; exact hx.cell hs hq
      have := run_append_grow (P := P) w t ty et i z ht.eq hi1 hi4 ad m cap xs hl hxs ⟨b2, o2, none⟩ j c2 news hln hn' hgr (by omega) (growslice_fits hgr hby)
      rw [this, hob]
  refine ⟨_, ob, hr, rfl, hb, hnew, fun N k' hN hk' => ⟨by rw [List.length_append, hl, hln, Nat.add_mul], .inr ⟨w.heap.size, _, _, rfl, hN, by rw [hk', hob], hcap.1, hcap.2, ?_, ?_⟩⟩⟩
  · rw [Array.size_append, Array.size_append, size_zeroCells, hzs, List.size_toArray, List.size_toArray, hl, hln, ← Nat.add_mul, ← Nat.add_mul]
    congr 1
    omega
  · simp only [Array.toList_append, List.toList_toArray]
    rw [List.take_left' (by rw [List.length_append, hl, hln, Nat.add_mul])]
/-- 'append' to what has no room: a new row. -/
theorem r_appNew {t et : TypeId} {sz bs : Nat} {z : Value} {x y : Operand} {base : Option Addr} {m cap b2 o2 j c2 d : Nat} {xs news : List Value} [ht : TyU P t (.slice et)] [hi : TyI P et sz bs z] (hd : o.dst = some d) (hf : Nat.blt d n = true) (hdet : det e = true) (hg : o.guard = none)
    (hop : o.op = .call { callee := .builtin .append, args := #[x, y], argTypes := #[t, t] }) (hx : opv e x = some (.slice base m cap)) (hy : opv e y = some (.slice (some ⟨b2, o2, none⟩) j c2)) (hH : Holds k base xs) (hl : xs.length = m * sz) (hnil : base = none → cap = 0) (hc : Cells k b2 o2 news) (hln : news.length = j * sz) (h0 : 0 < j) (hpos : Nat.blt 0 sz = true) (hz : Nat.beq z.cells.size sz = true) (hmc : m ≤ cap) (hgr : cap < m + j) (h63 : m + j ≤ maxLen) (hby : (m + j) * bs ≤ 140737488355328)
    (h : ∀ v k', Row F.w0.heap.size k' et sz v (m + j) (xs ++ news) → Le k k' → (∀ g, v.ownBlock = some g → k g = none) → RG P F n ops Q rest ((d, .is v) :: e) k') : RG P F n ops Q (o :: rest) e k := by
  refine r_run (f := fun w v _ k' => Row F.w0.heap.size k' et sz v (m + j) (xs ++ news) ∧ Le k k' ∧ ∀ g, v.ownBlock = some g → k g = none) (by rw [hd]; exact hf) hdet hg ?_ ?_
  · intro a w ha hst ev
    rw [hop] at ev
    have e1 := ev x (by simp [Op.operands, Call.operands]) _ hx
    have e2 := ev y (by simp [Op.operands, Call.operands]) _ hy
    obtain ⟨v, ob, hr, h1, h2, h3, h4⟩ := appNew_world (P := P) (t := t) (ty := o.type) (c2 := c2) hst.sub hH hl hnil hc hln h0 hpos hz hmc hgr h63 hby
    refine ⟨v, _, upd k w.heap.size ob, ?_, st_alloc hst h2 h3, h4 _ _ hst.size (upd_same _ _ _), le_new (hst.sub.none (Nat.le_refl _)) _, fun g hg => ?_⟩
    · simp [execOp, hop, resolve, invoke, builtin, e1, e2, hr]
    · rw [h1] at hg
      cases hg
      exact hst.sub.none (Nat.le_refl _)
  · rintro w v w' k' ⟨h1, h2, h3⟩
    rw [hd]
    exact h v k' h1 h2 h3
/-- Two results, the first of which is a cell. -/
theorem eg_returnC2 {fn : Func} {φ : PH → Value → Prop} {t u : Nat} {ty : TypeId} (hr : fn.results = #[.cell t ty, .tmp u]) {d : TypeDesc} {b off sz bs : Nat} {z x : Value} {vs : List Value} [h : TyU P ty d] [hi : TyI P ty sz bs z] (hv : get e t = some (.is (.pointer (some ⟨b, off, none⟩)))) (hx : get e u = some (.is x)) (hd : aggD d = true)
    (hc : Cells k b off vs) (hl : vs.length = sz) (hφ : φ k (.tuple #[.agg vs.toArray, x])) (hD : Dfr.ds = [] := by rfl) : EG F n (bodyPost P fn (RetF F φ) .ret) e k := by
  intro a w ha hs
  have h1 : a.tmps.getD t undef = .pointer (some ⟨b, off, none⟩) := ha.get t _ hv
  have h3 : a.tmps.getD u undef = x := ha.get u _ hx
  have hl := run_loadAgg (P := P) (t := ty) (w := w) hd hl hc hs.sub
  refine bodyPost_ret ?_ (ha.defers.trans hD) ⟨_, k, rfl, hs, hφ⟩
  have h2 : a.tmps[t]?.getD undef = .pointer (some ⟨b, off, none⟩) := by rw [← h1]; simp
  have h4 : a.tmps[u]?.getD undef = x := by rw [← h3]; simp
  simp [results, hr, asAddr, h2, h4, hl]
/-- Two slices in two blocks. -/
theorem d_over {x y z' : Operand} {f : FuncId} {fn : Func} {ats : Array TypeId} {tS tR et : TypeId} {g b2 o1 o2 m1 c1 m2 c2 sz bs : Nat} {z : Value} {cur cur2 : Array Value} {e1 e2 : TypeId} [ht : TyU P tS (.slice et)] [hi : TyI P et sz bs z]
    (hop : o.op = .call { callee := .value x, args := #[y, z'], argTypes := ats }) (hx : opv e x = some (.func (.func f) #[] #[])) (hy : opv e y = some (.slice (some ⟨b2, o2, none⟩) m2 c2)) (hz : opv e z' = some (.slice (some ⟨g, o1, none⟩) m1 c1))
    (hf : P.funcs[f]? = some fn) (hname : (fn.name == "runtime.NumGoroutine") = false) (hb : fn.body.isNone = true) (hn : Extern.findNext fn = none) (he : Extern.find fn = some (Extern.SlicesOverlaps.overlaps #[tS, tS] #[tR]))
    (hne : b2 ≠ g) (hk : k g = some (.cells cur e1 (0, 0))) (hk2 : k b2 = some (.cells cur2 e2 (0, 0))) (hpos : cur.size ≠ 0) : Det P e k o (.bool false) := by
  intro ev w hev hs
  rw [hop] at hev
  have v1 := hev x (by simp [Op.operands, Call.operands]) _ hx
  have v2 := hev y (by simp [Op.operands, Call.operands]) _ hy
  have v3 := hev z' (by simp [Op.operands, Call.operands]) _ hz
  obtain ⟨i, hi1, hi2, hi3, hi4⟩ := hi.eq
  have hg := hs _ _ hk
  have hg2 := hs _ _ hk2
  have h := run_callFunc_extern hf hname hb hn he #[.slice (some ⟨b2, o2, none⟩) m2 c2, .slice (some ⟨g, o1, none⟩) m1 c1] w
  rw [Lib.run_overlaps_apart w tS tR et ht.eq sz (fun w => by rw [← hi2]; exact run_size hi1 w) ⟨b2, o2, none⟩ ⟨g, o1, none⟩ m2 c2 m1 c1 hne _ _ cur2.size cur.size (by simp [World.shape?, hg2]; rfl) (by simp [World.shape?, hg]; rfl) hpos (by simp [World.frozen?, hg2]) (by simp [World.frozen?, hg2])] at h
  simp only [Result.andThen] at h
  simp [execOp, hop, resolve, Deferred.ofValue, invoke, v1, v2, v3, h]
/-- 's[i:j:mx]'. -/
theorem run_bounds3lo {ev : Operand → Value} {b : Bool} {i j mx : Nat} {x y z : Value} {kx kd kd' : IntKind} (len cap : Nat) (w : World) (hx : x = .int kx (i : Int)) (hy : y = .int kd (j : Int)) (hz : z = .int kd' (mx : Int)) (h1 : i ≤ j) (h2 : j ≤ mx) (h3 : mx ≤ cap) :
    (Instr.sliceBounds b len cap (some x) (some y) (some z)).run P w = .ok (i, j, mx) w := by
  have sb : ∀ (i y : Nat) (kd : IntKind) (cd : BoundsCode) (w : World), i ≤ y → (Instr.sliceBound (.int kd (i : Int)) y cd).run P w = .ok i w := by
    intro i y kd cd w hle
    have : (i : Int) ≤ (y : Int) := by omega
    simp [Instr.sliceBound, asIntOf, this]
  subst hx hy hz
  simp [Instr.sliceBounds, sb mx cap kd' _ _ h3, sb j mx kd _ _ h2, sb i j kx _ _ h1]
theorem d_sl3 {t et : TypeId} {x l y z' : Operand} {a : Option Addr} {m c i j mx sz bs : Nat} {z : Value} {kx kd kd' : IntKind} [ht : TyU P t (.slice et)] [hi' : TyI P et sz bs z] (hop : o.op = .slice t x (some l) (some y) (some z'))
    (hx : opv e x = some (.slice a m c)) (hl : opv e l = some (.int kx (i : Int))) (hy : opv e y = some (.int kd (j : Int))) (hz : opv e z' = some (.int kd' (mx : Int))) (h1 : i ≤ j) (h2 : j ≤ mx) (h3 : mx ≤ c) (hn : a = none → c = 0) :
    Det P e k o (.slice (shiftA mx i sz a) (j - i) (mx - i)) := by
  intro ev w hev _
  rw [hop] at hev
  obtain ⟨inf, hi1, hi2, _⟩ := hi'.eq
  have g := run_bounds3lo (P := P) (ev := ev) (b := true) (x := ev l) (y := ev y) (z := ev z') m c w (hev l (by simp [Op.operands]) _ hl) (hev y (by simp [Op.operands]) _ hy) (hev z' (by simp [Op.operands]) _ hz) h1 h2 h3
  cases a with
  | none =>
    have e0 := hn rfl
    have e1 : mx = 0 := by omega
    have e2 : j = 0 := by omega
    have e3 : i = 0 := by omega
    rw [e0, e1, e2, e3] at g
    simp [execOp, hop, hev x (by simp [Op.operands]) _ hx, Instr.sliceAt, Instr.slice, run_underlying ht.eq, g, run_size hi1, hi2, e1, e2, e3, e0, shiftA]
  | some ad =>
    simp [execOp, hop, hev x (by simp [Op.operands]) _ hx, Instr.sliceAt, Instr.slice, run_underlying ht.eq, g, run_size hi1, hi2, shiftA]
    split <;> rfl
end
end Go.Wm
namespace Go.Wm
variable [Dfr]
open Go.RowKit
/-- What an insertion leaves, in a row that was made for it. -/
theorem ins_new {sz i n : Nat} {css : List (List Value)} {cm cur : List Value} (hall : ∀ y ∈ css, y.length = sz) (hn : css.length = n) (hi : i ≤ n) (hcm : cm.length = sz) (hc : (n + 1) * sz ≤ cur.length) (ht : cur.take (i * sz) = (css.take i).flatten) {c1 : List Value} (h1 : c1 = cur.take (i * sz) ++ cm ++ cur.drop (i * sz + cm.length)) :
    (css.drop i).flatten.length = (n - i) * sz ∧ (i + 1) * sz + (css.drop i).flatten.length ≤ c1.length ∧ c1.length = cur.length ∧ (c1.take ((i + 1) * sz) ++ (css.drop i).flatten ++ c1.drop ((i + 1) * sz + (css.drop i).flatten.length)).take ((n + 1) * sz) = (css.take i ++ cm :: css.drop i).flatten := by
  have hd : (css.drop i).flatten.length = (n - i) * sz := by
    rw [flat_len _ (fun y hy => hall y (List.mem_of_mem_drop hy)), List.length_drop, hn]
  have e1 : (n + 1) * sz = i * sz + sz + (n - i) * sz := by
    rw [← Nat.succ_mul, ← Nat.add_mul]; congr 1; omega
  have e2 : (i + 1) * sz = i * sz + sz := Nat.succ_mul i sz
  have e3 : c1.length = cur.length := by
    rw [h1]; simp only [List.length_append, List.length_take, List.length_drop, hcm]; omega
  have e4 : (cur.take (i * sz) ++ cm).length = (i + 1) * sz := by
    simp only [List.length_append, List.length_take, hcm]; omega
  refine ⟨hd, by omega, e3, ?_⟩
  have e5 : c1.take ((i + 1) * sz) = cur.take (i * sz) ++ cm := by rw [h1, List.take_left' e4]
  rw [e5, List.take_left' (by rw [List.length_append, e4, hd]; omega), ht]
  simp
/-- What an insertion leaves, in a row that has room. -/
theorem ins_room {sz i n : Nat} {css : List (List Value)} {cm cur : List Value} (hall : ∀ y ∈ css, y.length = sz) (hn : css.length = n) (hi : i ≤ n) (hcm : cm.length = sz) (hc : (n + 1) * sz ≤ cur.length) (ht : cur.take (n * sz) = css.flatten) {c1 : List Value} (h1 : c1 = cur.take ((i + 1) * sz) ++ (css.drop i).flatten ++ cur.drop ((i + 1) * sz + (css.drop i).flatten.length)) :
    (css.drop i).flatten.length = (n - i) * sz ∧ (i + 1) * sz + (css.drop i).flatten.length ≤ cur.length ∧ c1.length = cur.length ∧ i * sz + cm.length ≤ c1.length ∧ (c1.take (i * sz) ++ cm ++ c1.drop (i * sz + cm.length)).take ((n + 1) * sz) = (css.take i ++ cm :: css.drop i).flatten := by
  have hd : (css.drop i).flatten.length = (n - i) * sz := by
    rw [flat_len _ (fun y hy => hall y (List.mem_of_mem_drop hy)), List.length_drop, hn]
  have e1 : (n + 1) * sz = i * sz + sz + (n - i) * sz := by
    rw [← Nat.succ_mul, ← Nat.add_mul]; congr 1; omega
  have e2 : (i + 1) * sz = i * sz + sz := Nat.succ_mul i sz
  have e0 : i * sz ≤ n * sz := Nat.mul_le_mul_right _ hi
  have e3 : c1.length = cur.length := by
    rw [h1]; simp only [List.length_append, List.length_take, List.length_drop, hd]; omega
  have e4 : (cur.take ((i + 1) * sz)).length = i * sz + cm.length := by
    rw [List.length_take, hcm]; omega
  refine ⟨hd, by omega, e3, by omega, ?_⟩
  have e5 : c1.drop (i * sz + cm.length) = (css.drop i).flatten ++ cur.drop ((i + 1) * sz + (css.drop i).flatten.length) := by
    rw [h1, List.append_assoc, List.drop_left' e4]
  have e6 : c1.take (i * sz) = (css.take i).flatten := by
    rw [h1, List.append_assoc, List.take_append_of_le_length (by omega), List.take_take, Nat.min_eq_left (by omega), flat_take css i hall, ← ht, List.take_take, Nat.min_eq_left e0]
  rw [e5, e6, ← List.append_assoc, List.take_left' (by simp only [List.length_append, hd, hcm]; rw [flat_take css i hall, List.length_take, flat_len css hall, hn]; omega)]
  simp
theorem Pieces.take {α : Type} {T : Ty α} {k : PH} {css : List (List Value)} {xs : List α} (h : Pieces T k css xs) (i : Nat) : Pieces T k (css.take i) (xs.take i) := by
  refine ⟨by rw [List.length_take, List.length_take, h.1], fun j cs x h1 h2 => ?_⟩
  rw [List.getElem?_take] at h1 h2
  split at h1
  · rename_i hj
    rw [if_pos hj] at h2
    exact h.2 j cs x h1 h2
  · cases h1
theorem Pieces.drop {α : Type} {T : Ty α} {k : PH} {css : List (List Value)} {xs : List α} (h : Pieces T k css xs) (i : Nat) : Pieces T k (css.drop i) (xs.drop i) := by
  refine ⟨by rw [List.length_drop, List.length_drop, h.1], fun j cs x h1 h2 => ?_⟩
  rw [List.getElem?_drop] at h1 h2
  exact h.2 _ cs x h1 h2
theorem Pieces.ins {α : Type} {T : Ty α} {k : PH} {css : List (List Value)} {xs : List α} (h : Pieces T k css xs) (i : Nat) {cs : List Value} {x : α} (hr : T.rep k cs x) : Pieces T k (css.take i ++ cs :: css.drop i) (xs.take i ++ x :: xs.drop i) := by
  have h1 := (h.take i).append ((Pieces.one hr).append (h.drop i))
  simpa using h1
theorem cells_take {k : PH} {g et m : Nat} {fr : Nat × Nat} {cur : Array Value} {xs : List Value} (hk : k g = some (.cells cur et fr)) (ht : cur.toList.take m = xs) : Cells k g 0 xs := by
  refine ⟨cur, et, fr, hk, fun p u hu => ?_⟩
  rw [← ht, List.getElem?_take] at hu
  split at hu
  · rw [Nat.zero_add, ← Array.getElem?_toList]; exact hu
  · cases hu
theorem drop_flat {sz : Nat} {css : List (List Value)} {i : Nat} (hall : ∀ y ∈ css, y.length = sz) (hi : i ≤ css.length) : (css.drop i).flatten = css.flatten.drop (i * sz) := by
  have e6 : css.flatten = (css.take i).flatten ++ (css.drop i).flatten := by rw [← List.flatten_append, List.take_append_drop]
  conv => rhs; rw [e6]
  rw [List.drop_left' (by rw [flat_len _ (fun y hy => hall y (List.mem_of_mem_take hy)), List.length_take, Nat.min_eq_left hi])]
theorem cells_drop {k : PH} {g et n sz i : Nat} {fr : Nat × Nat} {cur : Array Value} {css : List (List Value)} (hk : k g = some (.cells cur et fr)) (ht : cur.toList.take (n * sz) = css.flatten) (hall : ∀ y ∈ css, y.length = sz) (hn : css.length = n) (hi : i ≤ n) : Cells k g (0 + i * sz) (css.drop i).flatten := by
  have h0 := cells_take hk ht
  rw [drop_flat hall (by omega)]
  obtain ⟨c, e, f, h1, h2⟩ := h0
  refine ⟨c, e, f, h1, fun p u hu => ?_⟩
  rw [List.getElem?_drop] at hu
  have := h2 _ u hu
  rw [← this]; congr 1; omega
/-- What a deletion leaves. -/
theorem del_room {sz i j n : Nat} {css : List (List Value)} {cur : List Value} (hall : ∀ y ∈ css, y.length = sz) (hn : css.length = n) (hi : i ≤ j) (hj : j ≤ n) (hc : n * sz ≤ cur.length) (ht : cur.take (n * sz) = css.flatten) :
    (css.drop j).flatten.length = (n - j) * sz ∧ (cur.take (i * sz) ++ (css.drop j).flatten ++ cur.drop (i * sz + (css.drop j).flatten.length)).take ((i + (n - j)) * sz) = (css.take i ++ css.drop j).flatten ∧ (cur.take (i * sz) ++ (css.drop j).flatten ++ cur.drop (i * sz + (css.drop j).flatten.length)).length = cur.length := by
  have hd : (css.drop j).flatten.length = (n - j) * sz := by
    rw [flat_len _ (fun y hy => hall y (List.mem_of_mem_drop hy)), List.length_drop, hn]
  have e1 : (i + (n - j)) * sz = i * sz + (n - j) * sz := Nat.add_mul _ _ _
  have e0 : i * sz ≤ n * sz := Nat.mul_le_mul_right _ (by omega)
  have e2 : i * sz + (n - j) * sz ≤ n * sz := by rw [← Nat.add_mul]; exact Nat.mul_le_mul_right _ (by omega)
  have e6 : cur.take (i * sz) = (css.take i).flatten := by
    rw [flat_take css i hall, ← ht, List.take_take, Nat.min_eq_left e0]
  refine ⟨hd, ?_, by simp only [List.length_append, List.length_take, List.length_drop, hd]; omega⟩
  rw [List.take_left' (by simp only [List.length_append, List.length_take, hd]; omega), e6]
  simp
end Go.Wm
namespace Go.Wm
variable [Dfr]
open Go.RowKit
/-- Between the two: what the first call has made, of whose own block nothing is known. -/
def XP (N d0 : Nat) (kr : PH) (ψ : PH → Value → Prop) : Nat → (Nat → Value) → PH → World → Prop := fun s tm k w => N ≤ w.heap.size ∧ (s = 1 → (∀ k1, Le kr k1 → (∀ g, (tm d0).ownBlock = some g → k1 g = w.heap[g]?) → ψ k1 (tm d0)) ∧ LackV (tm d0) k w ∧ ∀ g, (tm d0).ownBlock = some g → N ≤ g)
section
variable {P : Program} {F : Fr} {n : Nat} {ops : Array Oper} {Q : Exit → Act → World → Prop} {rest : List Oper} {o : Oper} {e : Env} {k : PH}
end
end Go.Wm
namespace Go.Wm
variable [Dfr]
open Go.RowKit
theorem CTM.imp {P : Program} {f : FuncId} {args : Array Value} {k : PH} {M : Nat → Prop} {φ ψ : PH → Value → Prop} (h : CTM P f args k M φ) (hi : ∀ k v, φ k v → ψ k v) : CTM P f args k M ψ := fun w hs =>
  (h w hs).mono fun e w' ⟨v, k', h1, h2, h3, h4, h5, h6⟩ => ⟨v, k', h1, h2, h3, h4, h5, hi k' v h6⟩
end Go.Wm

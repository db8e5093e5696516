/-
  A region that draws its order and appends to a row of the call's own: one walk in the text's order. Conditions: the last operation waits for all others.
-/
import Derived.Test.YtapfmndcjcdcjaaMap
set_option linter.all false
namespace Go.Wm
open Go.RowKit

/-- All of a world's memory. -/
abbrev wPH (w : World) : PH := fun b => w.heap[b]?

section
variable {P : Program} {F : Fr} {n : Nat} {ops : Array Oper} {Q : Exit → Act → World → Prop} {rest : List Oper} {o : Oper} {e : Env} {k : PH}

theorem app_world {N : Nat} {t ty et : TypeId} {sz bs : Nat} {z : Value} {v : Value} {m c j : Nat} {bx ox : Nat} {xs news : List Value} [ht : TyU P t (.slice et)] [hi : TyI P et sz bs z] (w : World)
    (hrow : Row N (wPH w) et sz v m xs) (hN : N ≤ w.heap.size) (hnews : ∀ q u, news[q]? = some u → w.cell? ((⟨bx, ox, none⟩ : Addr).add q) = some u) (hl : news.length = j * sz) (h1 : ∀ u ∈ news, u.oneCell' = true) (hz : Nat.beq z.cells.size sz = true) (hpos : Nat.blt 0 sz = true) (hm : m + j ≤ maxLen) (hby : (m + j) * bs ≤ 140737488355328) :
    ∃ v' w', (Builtin.append_ #[t, t] ty #[v, .slice (some ⟨bx, ox, none⟩) j c]).run P w = .ok v' w' ∧ Row N (wPH w') et sz v' (m + j) (xs ++ news) ∧ (w'.os = w.os ∧ w'.tape = w.tape ∧ w'.output = w.output ∧ w.heap.size ≤ w'.heap.size) ∧
      (∀ i, i < w.heap.size → v.ownBlock ≠ some i → w'.heap[i]? = w.heap[i]?) ∧ ∀ g, v'.ownBlock = some g → v.ownBlock = some g ∨ w.heap.size ≤ g := by
  obtain ⟨i, hi1, hi2, hi3, hi4⟩ := hi.eq
  subst hi2
  subst hi3
  have hzs : z.cells.size = i.size := Nat.eq_of_beq_eq_true hz
  have hpos' : 0 < i.size := by simpa [Nat.blt_eq] using hpos
  obtain ⟨hxl, hcase⟩ := hrow
  have h63 : maxLen = 9223372036854775807 := rfl
  have hlen : (xs ++ news).length = (m + j) * i.size := by rw [List.length_append, hxl, hl, Nat.add_mul]
  rcases hcase with ⟨rfl, rfl⟩ | ⟨g, cap, cur, rfl, hgN, hgw, hmc, hcm, hcs, htake⟩
  · have hxs : xs = [] := by simpa using hxl
    subst hxs
    by_cases hj : j = 0
    · subst hj
      have hn0 : news = [] := by simpa using hl
      subst hn0
      have hr : (Builtin.append_ #[t, t] ty #[.slice none 0 0, .slice (some ⟨bx, ox, none⟩) 0 c]).run P w = .ok (.slice none 0 0) w := by
        have := run_firstCells_some (P := P) w i.size 0 ⟨bx, ox, none⟩ 0 c [] (by simp) (by simp)
        simp [Builtin.append_, run_underlying ht.eq, run_size hi1, Builtin.lenOf, this]
      exact ⟨_, _, hr, ⟨by simp, .inl ⟨rfl, rfl⟩⟩, ⟨rfl, rfl, rfl, Nat.le_refl _⟩, fun _ _ _ => rfl, fun g hg => by simp [Value.ownBlock] at hg⟩
    · have hr := run_append_nil (P := P) w t ty et i z ht.eq hi1 hi4 ⟨bx, ox, none⟩ j c news hl hnews (by omega) (by omega) (by simp at hby; omega)
      have hcap := grownCap_bd w j 0 et (by omega)
      have hb : Below w.heap.size w (w.drew.alloc (.cells (news.toArray ++ Builtin.zeroCells z.cells (grownCap w j 0 et - j)) et)) := (Below.refl _ w).drew.alloc (Nat.le_refl _) _
      refine ⟨_, _, hr, ⟨by simpa using hl, .inr ⟨w.heap.size, _, (news.toArray ++ Builtin.zeroCells z.cells (grownCap w j 0 et - j)), by simp, hN, ?_, by omega, hcap.2, ?_, ?_⟩⟩, ⟨hb.os, hb.tape, hb.output, hb.size⟩, fun i hi _ => hb.block i hi, fun g hg => .inr ?_⟩
      · show (w.heap.push _)[w.heap.size]? = _
        simp
      · rw [Array.size_append, size_zeroCells, hzs, List.size_toArray, hl, ← Nat.add_mul]
        congr 1
        omega
      · simp [← hl]
      · simp [Value.ownBlock] at hg; omega
  · have hgw' : w.heap[g]? = some (.cells cur et (0, 0)) := hgw
    by_cases hroom : m + j ≤ cap
    · have hfit : m * i.size + news.length ≤ cur.size := by rw [hl, hcs, ← Nat.add_mul]; exact Nat.mul_le_mul_right _ hroom
      have hr := run_append_room (P := P) w t ty et i ht.eq hi1 g m cap cur hgw' ⟨bx, ox, none⟩ j c news hl hnews h1 hroom hfit
      refine ⟨_, _, hr, ⟨hlen, .inr ⟨g, cap, _, rfl, hgN, setRow_heap w g cur _ et _ hgw', hroom, hcm, ?_, ?_⟩⟩, ⟨rfl, rfl, rfl, by simp [World.setRow]⟩, fun i hi hne => setRow_other w g i _ (fun h => hne (by subst h; rfl)), fun g' hg => .inl hg⟩
      · have : cur.toList.length = cap * i.size := by simpa using hcs
        simp only [List.size_toArray, List.length_append, List.length_take, List.length_drop, this]
        rw [Array.length_toList] at this
        omega
      · have h3 : (cur.toList.take (m * i.size)) = xs := htake
        rw [h3, show (m + j) * i.size = (xs ++ news).length from hlen.symm]
        exact List.take_left' rfl
    · have hold : ∀ q u, xs[q]? = some u → w.cell? ((⟨g, 0, none⟩ : Addr).add q) = some u := by
        intro q u hq
        rw [addr_add]
        simp only [World.cell?, hgw', Option.isSome_none, Bool.false_eq_true, if_false, Nat.zero_add]
        rw [← htake, List.getElem?_take] at hq
        split at hq
        · simpa using hq
        · cases hq
      have hfit : Builtin.nextslicecap (m + j) cap * i.bytes ≤ 281474976710656 := growslice_fits (by omega) hby
      have hr := run_append_grow (P := P) w t ty et i z ht.eq hi1 hi4 ⟨g, 0, none⟩ m cap xs hxl hold ⟨bx, ox, none⟩ j c news hl hnews (by omega) (by omega) hfit
      have hcap := grownCap_bd w (m + j) cap et hm
      have hb : Below w.heap.size w (w.drew.alloc (.cells (xs.toArray ++ news.toArray ++ Builtin.zeroCells z.cells (grownCap w (m + j) cap et - (m + j))) et)) := (Below.refl _ w).drew.alloc (Nat.le_refl _) _
      refine ⟨_, _, hr, ⟨hlen, .inr ⟨w.heap.size, _, (xs.toArray ++ news.toArray ++ Builtin.zeroCells z.cells (grownCap w (m + j) cap et - (m + j))), by simp, hN, ?_, hcap.1, hcap.2, ?_, ?_⟩⟩, ⟨hb.os, hb.tape, hb.output, hb.size⟩, fun i hi _ => hb.block i hi, fun g hg => .inr ?_⟩
      · show (w.heap.push _)[w.heap.size]? = _
        simp
      · rw [Array.size_append, size_zeroCells, hzs, Array.size_append, List.size_toArray, List.size_toArray, hl, hxl, ← Nat.add_mul, ← Nat.add_mul]
        congr 1
        omega
      · rw [show (m + j) * i.size = (xs ++ news).length from hlen.symm]
        simp only [Array.toList_append, List.toList_toArray]
        exact List.take_left' rfl
      · simp [Value.ownBlock] at hg; omega

/-- What is known but of v's own block. -/
def delV (k : PH) (v : Value) : PH := fun b => if v.ownBlock = some b then none else k b
theorem delV_le (k : PH) (v : Value) : Le (delV k v) k := fun b o h => by
  unfold delV at h
  split at h
  · cases h
  · exact h
theorem delV_of {k : PH} {v : Value} {b : Nat} (h : v.ownBlock ≠ some b) : delV k v b = k b := by simp [delV, h]
theorem delV_own {k : PH} {v : Value} {b : Nat} (h : v.ownBlock = some b) : delV k v b = none := by simp [delV, h]
theorem Cells.delV {k : PH} {v : Value} {b off : Nat} {vs : List Value} (h : Cells k b off vs) (hne : v.ownBlock ≠ some b) : Cells (delV k v) b off vs := by
  obtain ⟨c, et, fr, h1, h2⟩ := h
  exact ⟨c, et, fr, by rw [delV_of hne]; exact h1, h2⟩
theorem le_delV {h k : PH} {v : Value} (hle : Le h k) (ha : Apart h v) : Le h (Wm.delV k v) := fun b o hb => by
  rw [delV_of (fun he => by rw [ha b he] at hb; cases hb)]
  exact hle b o hb
/-- Nothing is known of v's own block, which is there. -/
def LackV (v : Value) (k : PH) (w : World) : Prop := ∀ g, v.ownBlock = some g → k g = none ∧ g < w.heap.size
theorem Row.block {N : Nat} {k : PH} {et sz : Nat} {v : Value} {m : Nat} {xs : List Value} (h : Row N k et sz v m xs) {g : Nat} (hg : v.ownBlock = some g) : N ≤ g ∧ ∃ ob, k g = some ob := by
  rcases h.2 with ⟨rfl, _⟩ | ⟨g', cap, cur, rfl, h1, h2, _⟩
  · simp [Value.ownBlock] at hg
  · simp [Value.ownBlock] at hg; subst hg; exact ⟨h1, _, h2⟩
theorem Row.at {N : Nat} {k k' : PH} {et sz : Nat} {v : Value} {m : Nat} {xs : List Value} (h : Row N k et sz v m xs) (hk : ∀ g, v.ownBlock = some g → k' g = k g) : Row N k' et sz v m xs := by
  refine ⟨h.1, ?_⟩
  rcases h.2 with h' | ⟨g', cap, cur, rfl, h1, h2, h3⟩
  · exact .inl h'
  · exact .inr ⟨g', cap, cur, rfl, h1, by rw [hk g' (by simp [Value.ownBlock])]; exact h2, h3⟩

/-- v' is the row, in a world; nothing is known of v's own block. -/
def RowAt (N et sz : Nat) (v v' : Value) (m : Nat) (xs : List Value) (k : PH) (w : World) : Prop := Row N (wPH w) et sz v' m xs ∧ LackV v k w
theorem rowAt_stays {N et sz : Nat} {v v' : Value} {m : Nat} {xs : List Value} (k : PH) (w : World) (k' : PH) (w' : World) (hb : RowKit.Below w.heap.size w w') (ha : Agr w.heap.size k k') (h : RowAt N et sz v v' m xs k w) : RowAt N et sz v v' m xs k' w' :=
  ⟨h.1.at fun g hg => by
    obtain ⟨_, ob, ho⟩ := h.1.block hg
    exact hb.block g (Array.getElem?_eq_some_iff.1 ho).1, fun g hg => ⟨(ha g (h.2 g hg).2).trans (h.2 g hg).1, Nat.lt_of_lt_of_le (h.2 g hg).2 hb.size⟩⟩

/-- The append, as the one operation that turns the row. -/
theorem we_app {t et : TypeId} {sz bs : Nat} {z : Value} {x : Operand} {ty : Nat} {p : PV} {v : Value} {m j : Nat} {xs news : List Value} {K : Nat → Env → Prop} {i d : Nat} {r : List Oper} [ht : TyU P t (.slice et)] [hi : TyI P et sz bs z]
    (hd : o.dst = some d) (hg : o.guard = none) (hop : o.op = .call { callee := .builtin .append, args := #[x, .tmp ty], argTypes := #[t, t] }) (hx : opv e x = some v) (hy : get e ty = some p) (hyp : ∀ k1 u, Le (delV k v) k1 → p.holds k1 u → ∃ bx ox c, u = .slice (some ⟨bx, ox, none⟩) j c ∧ Cells k1 bx ox news)
    (hl : news.length = j * sz) (h1 : ∀ u ∈ news, u.oneCell' = true) (hz : Nat.beq z.cells.size sz = true) (hpos : Nat.blt 0 sz = true) (hm : m + j ≤ maxLen) (hby : (m + j) * bs ≤ 140737488355328)
    (h : WE P F n ops (delV k v) (RowAt F.w0.heap.size et sz v v m xs) (fun v' k1 w => RowAt F.w0.heap.size et sz v v' (m + j) (xs ++ news) k1 w ∧ ∀ g, v'.ownBlock = some g → v.ownBlock = some g ∨ k g = none) K (i + 1) (some i) r ((d, .such fun _ _ => True) :: e)) :
    WE P F n ops (delV k v) (RowAt F.w0.heap.size et sz v v m xs) (fun v' k1 w => RowAt F.w0.heap.size et sz v v' (m + j) (xs ++ news) k1 w ∧ ∀ g, v'.ownBlock = some g → v.ownBlock = some g ∨ k g = none) K i none (o :: r) e := by
  refine we_eff (p := .such fun _ _ => True) ⟨fun _ _ _ _ h => h, hg, fun a w k1 hk hs ⟨hx0, hlack⟩ hsz hlo => ?_⟩ (by rw [hd]; exact h)
  have hev := evs_of hlo
  rw [hop] at hev
  have e1 := hev x (by simp [Op.operands, Call.operands]) _ hx
  have hty : ty ∈ o.looksAt ops := by
    unfold Oper.looksAt
    refine List.mem_append.2 (.inl ?_)
    rw [List.mem_filterMap]
    exact ⟨.tmp ty, by rw [hop]; simp [Op.operands, Call.operands], rfl⟩
  obtain ⟨bx, ox, c, hu, hc⟩ := hyp k1 _ hk (hlo ty hty p hy)
  have e2 : a.eval (.tmp ty) = .slice (some ⟨bx, ox, none⟩) j c := hu
  obtain ⟨v', w', hr, hrow', ⟨g1, g2, g3, g4⟩, g5, g6⟩ := app_world (P := P) (t := t) (ty := o.type) (c := c) w hx0 hs.size (fun q u hq => by rw [addr_add]; exact hc.cell hs.sub hq) hl h1 hz hpos hm hby
  have hexec : (execOp a.eval o).run P w = .ok (.value v') w' := by
    simp [execOp, hop, resolve, invoke, builtin, e1, e2, hr]
  refine (ex_value hexec).mono ?_
  rintro u u' ⟨rfl, rfl⟩
  refine ⟨k1, Le.refl _, ⟨g1.trans hs.os, g2.trans hs.tape, g3.trans hs.output, Nat.le_trans hs.size g4, fun b hb hm => ?_, fun b ob hb => ?_, hs.keep⟩, g4, ⟨⟨hrow', fun g hg => ⟨(hlack g hg).1, Nat.lt_of_lt_of_le (hlack g hg).2 g4⟩⟩, fun g hg => ?_⟩, trivial⟩
  · rw [g5 b (Nat.lt_of_lt_of_le hb hs.size) (fun he => by have := (hx0.block he).1; omega)]
    exact hs.old b hb hm
  · rw [g5 b (hs.sub.lt hb) (fun he => by rw [(hlack b he).1] at hb; cases hb)]
    exact hs.sub b ob hb
  · rcases g6 g hg with h' | h'
    · exact .inl h'
    · refine .inr ?_
      cases hkg : k g with
      | none => rfl
      | some ob =>
        exfalso
        by_cases hvo : v.ownBlock = some g
        · have := (hlack g hvo).2
          omega
        · have := hs.sub.lt (hk g ob (by rw [delV_of hvo]; exact hkg))
          omega
theorem we_s {X0 : PH → World → Prop} {X1 : Value → PH → World → Prop} {K : Nat → Env → Prop} {i : Nat} {dd : Option Nat} {r : List Oper} {v : Value} {d : Nat} (hd : o.dst = some d) (hl : Loc P n ops o e k (.is v)) (h : WE P F n ops k X0 X1 K (i + 1) dd r ((d, .is v) :: e)) : WE P F n ops k X0 X1 K i dd (o :: r) e :=
  we_loc hl (by rw [hd]; exact h)
theorem we_v {X0 : PH → World → Prop} {X1 : Value → PH → World → Prop} {K : Nat → Env → Prop} {i : Nat} {dd : Option Nat} {r : List Oper} {φ : PH → Value → Prop} {d : Nat} (hd : o.dst = some d) (hl : Loc P n ops o e k (.such φ)) (h : WE P F n ops k X0 X1 K (i + 1) dd r ((d, .such φ) :: e)) : WE P F n ops k X0 X1 K i dd (o :: r) e :=
  we_loc hl (by rw [hd]; exact h)
theorem cut_cons_other {t d : Nat} {p : PV} {e : Env} (h : d ≠ t) : get ((d, p) :: e) t = get e t := get_cons_other _ _ h
theorem cut_same (t : Nat) : ∀ e : Env, get (cut t e) t = none
  | [] => rfl
  | (d, q) :: r => by
    simp only [cut]
    split
    · exact cut_same t r
    · rename_i hb
      simp only [get, hb]
      exact cut_same t r

/-- A region that draws and appends to the row v. -/
theorem cg_app {id : Nat} {l : List Oper} {last : Oper} [hm : Mixed P] (v : Value) {et sz m m' : Nat} {xs xs' : List Value} (hrow : Row F.w0.heap.size k et sz v m xs) (hl : l = l.dropLast ++ [last]) (hok : okAny n l = true) (hlast : lastOk l = true) (hdst : (l.dropLast.all fun o => o.dst.isSome) = true) (hdet : det e = true)
    (h : WE P F n l.toArray (delV k v) (RowAt F.w0.heap.size et sz v v m xs) (fun v' k1 w => RowAt F.w0.heap.size et sz v v' m' xs' k1 w ∧ ∀ g, v'.ownBlock = some g → v.ownBlock = some g ∨ k g = none)
      (fun j e' => ∃ (d : Nat) (o : Oper) (e2 : Env), l[j]? = some o ∧ o.dst = some d ∧ det e2 = true ∧ EnvLe e2 e' ∧ ∀ v' k', Row F.w0.heap.size k' et sz v' m' xs' → Turn k k' v v' → RG P F n l.toArray Q [last] ((d, .is v') :: e2) k') 0 none l.dropLast e) : CG P F n Q (.region id l.toArray true) e k := by
  intro a w ha hs
  generalize l.dropLast = A at hl hdst h
  subst hl
  have hs0 : St F (delV k v) w := hs.weak (delV_le k v) fun b hb hm => by
    rw [delV_of (fun he => by have := (hrow.block he).1; omega)]
    exact hs.keep b hb hm
  refine region_eff (F := F) hm.eq hok hlast (fun o ho => (List.all_eq_true.1 hdst) o ho) rowAt_stays (fun v' k1 w k2 w' hb ha hx => ⟨rowAt_stays k1 w k2 w' hb ha hx.1, hx.2⟩) (fun t q hg => by obtain ⟨v, rfl⟩ := det_get hdet hg; trivial) (ha.heap hdet) hs0
    (k := delV k v) (X0 := RowAt F.w0.heap.size et sz v v m xs) (X1 := fun v' k1 w => RowAt F.w0.heap.size et sz v v' m' xs' k1 w ∧ ∀ g, v'.ownBlock = some g → v.ownBlock = some g ∨ k g = none)
    ⟨hrow.at fun g hg => by obtain ⟨_, ob, ho⟩ := hrow.block hg; rw [ho]; exact hs.sub g ob ho, fun g hg => ⟨delV_own hg, by obtain ⟨_, ob, ho⟩ := hrow.block hg; exact hs.sub.lt ho⟩⟩ ?_
  have fin : ∀ (j : Nat) (e' : Env), (∃ (d : Nat) (o : Oper) (e2 : Env), (A ++ [last])[j]? = some o ∧ o.dst = some d ∧ det e2 = true ∧ EnvLe e2 e' ∧ ∀ v' k', Row F.w0.heap.size k' et sz v' m' xs' → Turn k k' v v' → RG P F n (A ++ [last]).toArray Q [last] ((d, .is v') :: e2) k') →
      ∀ k' a' w', Le (delV k v) k' → Ag n e' k' a' → St F k' w' → (∀ o d, (A ++ [last])[j]? = some o → o.dst = some d → RowAt F.w0.heap.size et sz v (a'.tmps.getD d undef) m' xs' k' w' ∧ ∀ g, (a'.tmps.getD d undef).ownBlock = some g → v.ownBlock = some g ∨ k g = none) → wpList P (A ++ [last]).toArray Q [last] a' w' := by
    rintro j e' ⟨d, o, e2, hj, hd, hde, hel, hRG⟩ k' a' w' hle hag hst hX
    obtain ⟨⟨hr', _⟩, hg'⟩ := hX o d hj hd
    generalize hv' : a'.tmps.getD d undef = v' at hr' hg'
    have hagd : ∀ k2, Ag n ((d, .is v') :: e2) k2 a' := fun k2 => ⟨hag.size, hag.defers, fun u p hp => by
      by_cases hu : d = u
      · subst hu
        rw [get_cons_same] at hp
        cases hp
        exact hv'
      · rw [get_cons_other _ _ hu] at hp
        obtain ⟨x, rfl⟩ := det_get hde hp
        exact hag.get u _ (hel.get hp)⟩
    refine hRG v' (fun b => if v'.ownBlock = some b then w'.heap[b]? else delV k v b) (hr'.at fun g hg => by simp [hg]) (fun h hle' hap => ⟨fun b ob hb => ?_, fun g hg => ?_⟩) a' w' (hagd _) ⟨hst.os, hst.tape, hst.output, hst.size, hst.old, fun b ob hb => ?_, fun b hb hmu => ?_⟩
    · have hne : v.ownBlock ≠ some b := fun he => by rw [hap b he] at hb; cases hb
      have hne' : v'.ownBlock ≠ some b := fun he => by
        rcases hg' b he with h' | h'
        · exact hne h'
        · rw [hle' b ob hb] at h'; cases h'
      simp only [hne', if_false]
      rw [delV_of hne]
      exact hle' b ob hb
    · rcases hg' g hg with h' | h'
      · exact hap g h'
      · cases hh : h g with
        | none => rfl
        | some ob => rw [hle' g ob hh] at h'; cases h'
    · replace hb : (if v'.ownBlock = some b then w'.heap[b]? else delV k v b) = some ob := hb
      split at hb
      · exact hb
      · exact hst.sub b ob (hle b ob hb)
    · have hne : v.ownBlock ≠ some b := fun he => by have := (hrow.block he).1; omega
      have hne' : v'.ownBlock ≠ some b := fun he => by have := (hr'.block he).1; omega
      show (if v'.ownBlock = some b then w'.heap[b]? else delV k v b) = F.k0 b
      rw [if_neg hne', delV_of hne]
      exact hs.keep b hb hmu
  revert h
  have mono : ∀ (K K' : Nat → Env → Prop), (∀ j e, K j e → K' j e) → ∀ (l : List Oper) (i : Nat) (d : Option Nat) (e : Env) (X0 : PH → World → Prop) (X1 : Value → PH → World → Prop) (k0 : PH), WE P F n (A ++ [last]).toArray k0 X0 X1 K i d l e → WE P F n (A ++ [last]).toArray k0 X0 X1 K' i d l e := by
    intro K K' hKK l
    induction l with
    | nil => rintro i d e X0 X1 k0 ⟨j, hd, hK⟩; exact ⟨j, hd, hKK j e hK⟩
    | cons o l ih =>
      intro i d e X0 X1 k0 h
      rcases h with ⟨p, h0, h1, h⟩ | ⟨hd, p, h0, h⟩
      · exact .inl ⟨p, h0, h1, ih _ _ _ _ _ _ h⟩
      · exact .inr ⟨hd, p, h0, ih _ _ _ _ _ _ h⟩
  exact fun h => mono _ _ fin A 0 none e _ _ _ h
end
end Go.Wm

/-
  The fewest: the document's. Conditions: that members and partitions read as data, and that they are few.
-/
import Derived.Test.YtbhgbfhgdccghaaGreatAry
import Derived.Test.YtbhgbfhgdccghaaGreatL1
import Derived.Test.YtbhgbfhgdccghaaGreatSto2
import Derived.Test.YtbhgbfhgdccghaaGreatK14
import Derived.Test.YtbhgbfhgdccghaaGreatP1
import Derived.Test.YtbhgbfhgdccghaaGreatK1
import Derived.Test.YtbhgbfhgdccghaaGreatCoB
import Derived.Test.YtbhgbfhgdccghaaGreatP3
import Derived.Test.YtbhgbfhgdccghaaGreatP10
import Derived.Test.YtbhgbfhgdccghaaGreatK7
import Derived.Test.YtbhgbfhgdccghaaGreatP7
set_option linter.all false
namespace Go.Wm
open Go.RowKit Go.Proofs
theorem LocI.imp {P : Program} {n : Nat} {ops : Array Oper} {I : PH → World → Prop} {o : Oper} {e : Env} {k : PH} {φ ψ : PH → Value → Prop} (h : LocI P n ops I o e k (.such φ)) (hm : (PV.such ψ).Mono) (hi : ∀ k v, φ k v → ψ k v) : LocI P n ops I o e k (.such ψ) := by
  refine ⟨hm, fun a w k1 hk hs hI hsz hlo => ?_⟩
  have := h.2 a w k1 hk hs hI hsz hlo
  split
  · rename_i hw
    rw [if_pos hw] at this
    exact this.mono fun v w' ⟨k', g1, g2, g3, g4⟩ => ⟨k', g1, g2, g3, hi _ _ g4⟩
  · rename_i hw
    rw [if_neg hw] at this
    exact hi _ _ this
/-- Told of a heap that lacks a block. -/
def Lk (h : PH) (b : Nat) (φ : PH → Value → Prop) : PH → Value → Prop := fun k v => ∃ k2, Le h k2 ∧ k2 b = none ∧ Le k2 k ∧ φ k2 v
theorem Lk.mono {h : PH} {b : Nat} {φ : PH → Value → Prop} : (PV.such (Lk h b φ)).Mono := fun k k' v hle ⟨k2, h1, h2, h3, h4⟩ => ⟨k2, h1, h2, h3.trans hle, h4⟩
theorem upd_mono {h k : PH} {b : Nat} {ob : Obj} (hl : Le h k) : Le (upd h b ob) (upd k b ob) := fun i o hi => by
  by_cases e : i = b
  · subst e; rw [upd_same] at hi ⊢; exact hi
  · rw [upd_other e] at hi ⊢; exact hl i o hi
/-- A list behind an empty one, in a region that draws: 'append(S{}, l...)'. -/
theorem loci_appE {P : Program} {n : Nat} {ops : Array Oper} {o : Oper} {e : Env} {k h kq : PH} {I : PH → World → Prop} {α : Type} {T : Ty α} {t et : TypeId} {bs c : Nat} {z : Value} {x y : Operand} {b : Addr} {a : Option Addr} {l : List α} [ht : TyU P t (.slice et)] [hi : TyI P et T.sz bs z] (hg : wantedE ops e o = some true)
    (hop : o.op = .call { callee := .builtin .append, args := #[x, y], argTypes := #[t, t] }) (hx : opv e x = some (.slice (some b) 0 0)) (hy : opv e y = some (.slice a l.length c)) (hkq : Le kq k) (hle : Le h k) (hsl : Sl T h a c l)
    (h1 : ∀ k cs x, T.rep k cs x → ∀ u ∈ cs, u.oneCell' = true) (hz : Nat.beq z.cells.size T.sz = true) (hpos : Nat.blt 0 T.sz = true) (hby : l.length * bs ≤ 140737488355328) :
    LocI P n ops I o e k (.such (Und h kq fun k' v => ∃ a' c', v = .slice a' l.length c' ∧ Sl T k' a' c' l)) := by
  refine ⟨Und.mono, fun aa w k1 hk hs hi' hsz hlo => ?_⟩
  rw [if_pos (wanted_of hlo hg)]
  have hev := evs_of hlo
  rw [hop] at hev
  have e1 := hev x (by simp [Op.operands, Call.operands]) _ hx
  have e2 := hev y (by simp [Op.operands, Call.operands]) _ hy
  have bc := hsl.cap; have bm := hsl.max
  by_cases hne : l = []
  · subst hne
    have hr := run_app0 (P := P) (t := t) (ty := o.type) (base := some b) (a := a) (m := 0) (cap := 0) (c := c) w (Nat.le_refl _)
    have hexec : (execOp aa.eval o).run P w = .ok (.value (.slice (some b) 0 0)) w := by
      have e2 : aa.eval y = .slice a 0 c := e2
      simp [execOp, hop, resolve, invoke, builtin, e1, e2, hr]
    refine ex_value hexec |>.mono ?_
    rintro u w'' ⟨rfl, rfl⟩
    exact ⟨k1, Below.refl _ _, Agr.refl _ _, hs, h, Le.refl _, fun _ _ _ => rfl, hle.trans hk, _, _, rfl, by simp, by simp [maxLen], (fun h => by cases h), (fun h => absurd h (by omega)), by simp⟩
  · cases ha : a with
    | none =>
      have := hsl.nil ha
      exact absurd (List.length_eq_zero_iff.1 (by omega)) hne
    | some ad =>
      subst ha
      have h0 : 0 < l.length := List.length_pos_iff.2 hne
      obtain ⟨hs0, css, hp, hc⟩ := Sl.pieces (b := ad.block) (off := ad.off) (sp := ad.spot) hsl hne
      have hae : ad = ⟨ad.block, ad.off, none⟩ := by cases ad; simp only at hs0; subst hs0; rfl
      rw [hae] at e2
      obtain ⟨v, ob, hr, g1, g2, g3, g4⟩ := appNew_world (P := P) (t := t) (ty := o.type) (k := k1) (base := some b) (m := 0) (cap := 0) (xs := []) (c2 := c) hs (.inl rfl) (by simp) (fun h => by cases h) (hc.le (hle.trans hk)) (flat_len css hp.len |>.trans (by rw [hp.1])) h0 hpos hz (Nat.le_refl _) (by omega) (by omega) (by simpa using hby)
      have hexec : (execOp aa.eval o).run P w = .ok (.value v) (w.drew.alloc ob) := by
        simp [execOp, hop, resolve, invoke, builtin, e1, e2, hr]
      refine ex_value hexec |>.mono ?_
      rintro u w'' ⟨rfl, rfl⟩
      have hrow := g4 0 (upd h w.heap.size ob) (Nat.zero_le _) (upd_same h w.heap.size ob)
      simp only [Nat.zero_add, List.nil_append] at hrow
      have hle2 : Le h (upd h w.heap.size ob) := (Le.refl h).upd ((hs.mono (hle.trans hk)).none (Nat.le_refl _))
      obtain ⟨a', c', e3, h4⟩ := Row.sls (T := T) hrow (hp.le hle2)
      refine ⟨upd k1 w.heap.size ob, g2, agr_upd (Nat.le_refl _) _, fun b ob' hbo => ?_, upd h w.heap.size ob, hle2, fun b ob' hbo => upd_other ?_, upd_mono (hle.trans hk), a', c', e3, h4⟩
      · by_cases hbe : b = w.heap.size
        · subst hbe
          rw [upd_same] at hbo
          cases hbo
          exact g3
        · rw [upd_other hbe] at hbo
          exact hs.below g2 b ob' hbo
      · have := hs.lt (hk _ _ (hkq _ _ hbo))
        omega
def zM : Member := ⟨⟨#[]⟩, ⟨#[]⟩, [], [], false, 0⟩
/-- A member with topics of its own, and nothing else. -/
def NewM (x : Member) (k : PH) (vs : List Value) : Prop := ∃ au cu, vs = x.cs au cu none 0 ∧ Sl tStr k au cu x.subs
def NewV (x : Member) (k : PH) (v : Value) : Prop := ∃ vs : List Value, v = .agg vs.toArray ∧ NewM x k vs
attribute [local irreducible] RG CG EG WA Loc Det Alc CT Exit.then Exit.inBlock Code.wp bodyPost
end Go.Wm
-- cut by zcut
namespace Go.Wm
open Go.RowKit Go.Proofs
/-- What is told behind some have gone. -/
def refLessG (g q : Group) : Group × Int := if g.state = 2 ∧ 0 < q.l.length then (if 1048576 ≤ q.gen then (noG, 2) else ({ roundG q with state := stateG (roundG q).l }, 0)) else ({ q with state := stateG q.l }, 0)
attribute [local irreducible] RG CG EG WA Loc Det Alc CT Exit.then Exit.inBlock Code.wp bodyPost
end Go.Wm
namespace Go.Wm
open Go.RowKit Go.Proofs
attribute [local irreducible] RG CG EG WA Loc Det Alc CT Exit.then Exit.inBlock Code.wp bodyPost
set_option maxHeartbeats 400000 in
theorem has22_ct {k : PH} {a : Option Addr} {c : Nat} {l : List Tp} (hl : Sl tTp k a c l) (tp : Tp) :
    CT Tryz.prog 84 #[.slice a l.length c, .agg tp.vs.toArray] k (fun _ v => v = .bool (decide (tp ∈ l))) := by
  refine ct_of_body (l := [_, _]) Tryz.func84 rfl Tryz.ntmps84 (by simp) (fun _ _ _ _ h => h) fun F hF0 hFm => ?_
  have b1 := hl.cap; have b2 := hl.max; unfold maxLen at b2
  repeat (first | refine cg_seq ?_ | refine cg_region ?_)
  refine rb rfl rfl rfl rfl (a_box rfl rfl) ?_; intro b3 k3 hb3 hN3 hle3 hk3
  have c3 := cells_at (vs := tp.vs) hk3 rfl
  repeat (first | refine cg_seq ?_ | refine cg_region ?_ | refine rg_nil ?_ | refine eg_then ?_ | refine qsp ?_ | refine qsn ?_ | refine cg_block ?_)
  refine cg_loop (fun (i : Nat) e k' => Le k3 k' ∧ i ≤ l.length ∧ tp ∉ l.take i ∧ e = [(3, .is (.pointer (some ⟨b3, 0, none⟩))), (7, .is (.slice a l.length c)), (8, .is (.int .i64 (l.length : Int))), (9, .is (.int .i64 (i : Int)))])
    (fun i => l.length - i) 0 ⟨Le.refl _, Nat.zero_le _, by simp, rfl⟩ ⟨rfl, rfl, rfl, rfl, trivial⟩ ?_
  rintro i e k1 ⟨hle, hi, hno, rfl⟩
  repeat (first | refine cg_seq ?_ | refine cg_region ?_ | refine rg_nil ?_ | refine eg_then ?_ | refine qsp ?_)
  refine cg_cond rfl (fun h => ?_) (fun h => ?_)
  · have hlt : i < l.length := by simpa using h
    have hle0 : Le k k1 := hle3.trans hle
    obtain ⟨bx, ox, cx, rfl, ⟨rfl, _⟩, hcx⟩ := (hl.le hle0).el i l[i] (List.getElem?_eq_getElem hlt)
    repeat (first | refine cg_seq ?_ | refine cg_region ?_ | refine eg_then ?_ | refine qsi ?_ | refine qsg ?_ | refine cg_skip ?_ | refine cg_block ?_)
    refine rb rfl rfl rfl rfl (a_alloc rfl) ?_; intro b6 k6 hb6 hN6 hle6 hk6
    refine rw1 rfl rfl rfl rfl rfl rfl rfl hk6 rfl (.inl hN6) ?_ ?_; (simp [Tp.vs, Member.cs, Group.cs, Value.oneCell']); intro k7 ht7 hk7
    have c6 := cells_at (vs := (l[i]).vs) hk7 rfl
    have hle7 : Le k1 k7 := ht7 k1 hle6 hb6
    have c3' := c3.le (hle.trans hle7)
    repeat (first | refine cg_seq ?_ | refine cg_region ?_ | refine rg_nil ?_ | refine eg_then ?_ | refine qsg ?_ | refine qsE ?_)
    refine cg_cond rfl (fun h => ?_) (fun h => ?_)
    · repeat (first | refine cg_seq ?_ | refine cg_region ?_ | refine rg_nil ?_ | refine eg_then ?_ | refine qsp ?_ | refine cg_ret ?_ | refine eg_then_ret ?_ | refine eg_in_ret ?_)
      refine eg_return rfl rfl ?_
      have h2 : l[i] = tp := by simpa using h
      have : tp ∈ l := h2 ▸ List.getElem_mem hlt
      simp [this]
    · repeat (first | refine cg_region ?_ | refine rg_nil ?_ | refine eg_then ?_ | refine qsp ?_ | refine qsa ?_ | refine cg_skip ?_ | refine eg_in_normal ?_)
      refine eg_again (i + 1) _ ⟨hle.trans hle7, hlt, ?_, rfl⟩ (by omega) ⟨rfl, rfl, rfl, rfl, trivial⟩
      have h2 : l[i] ≠ tp := by simpa using h
      rw [mem_take_succ hlt]
      rintro (h3 | h3)
      · exact hno h3
      · exact h2 h3.symm
  · repeat (first | refine cg_seq ?_ | refine cg_region ?_ | refine rg_nil ?_ | refine eg_then ?_ | refine qsp ?_ | refine cg_ret ?_ | refine cg_exit ?_ | refine eg_then_exit ?_ | refine eg_in_exit ?_)
    refine eg_return rfl rfl ?_
    have : i = l.length := by simp at h; omega
    rw [this, List.take_length] at hno
    simp [hno]
set_option maxHeartbeats 400000 in
theorem refWants_ct {k : PH} {m : Member} {cm : List Value} (hm : tMember.rep k cm m) (tp : Tp) :
    CT Tryz.prog 85 #[.agg cm.toArray, .agg tp.vs.toArray] k (fun _ v => v = .bool (decide (tp.topic ∈ m.subs))) := by
  obtain ⟨sa, sc, oa, oc, rfl, ⟨hl, _⟩, _⟩ := hm
  refine ct_of_body (l := [_, _]) Tryz.func85 rfl Tryz.ntmps85 (by simp) (fun _ _ _ _ h => h) fun F hF0 hFm => ?_
  have b1 := hl.cap; have b2 := hl.max; unfold maxLen at b2
  repeat (first | refine cg_seq ?_ | refine cg_region ?_)
  refine rb rfl rfl rfl rfl (a_box rfl rfl) ?_; intro b2' k2 hb2 hN2 hle2 hk2
  refine rb rfl rfl rfl rfl (a_box rfl rfl) ?_; intro b3 k3 hb3 hN3 hle3 hk3
  have c3 := cells_at (vs := tp.vs) hk3 rfl
  have c2 := (cells_at (vs := Member.cs m sa sc oa oc) hk2 rfl).le hle3
  have f2 := c2.one (i := 2) rfl
  have f0 := c3.one (i := 0) rfl
  repeat (first | refine cg_seq ?_ | refine cg_region ?_ | refine rg_nil ?_ | refine eg_then ?_ | refine qsp ?_ | refine qsn ?_ | refine qsl ?_ | refine qsf ?_ | refine cg_block ?_)
  refine cg_loop (fun (i : Nat) e k' => Le k3 k' ∧ i ≤ m.subs.length ∧ tp.topic ∉ m.subs.take i ∧ e = [(3, .is (.pointer (some ⟨b3, 0, none⟩))), (8, .is (.slice sa m.subs.length sc)), (9, .is (.int .i64 (m.subs.length : Int))), (10, .is (.int .i64 (i : Int)))])
    (fun i => m.subs.length - i) 0 ⟨Le.refl _, Nat.zero_le _, by simp, rfl⟩ ⟨rfl, rfl, rfl, rfl, trivial⟩ ?_
  rintro i e k1 ⟨hle, hi, hno, rfl⟩
  repeat (first | refine cg_seq ?_ | refine cg_region ?_ | refine rg_nil ?_ | refine eg_then ?_ | refine qsp ?_)
  refine cg_cond rfl (fun h => ?_) (fun h => ?_)
  · have hlt : i < m.subs.length := by simpa using h
    obtain ⟨bx, ox, cx, rfl, ⟨rfl, _⟩, hcx⟩ := (hl.le ((hle2.trans hle3).trans hle)).el i m.subs[i] (List.getElem?_eq_getElem hlt)
    have f0' := f0.le hle
    repeat (first | refine cg_seq ?_ | refine cg_region ?_ | refine rg_nil ?_ | refine eg_then ?_ | refine qsp ?_ | refine qsi ?_ | refine qsl ?_ | refine qsf ?_ | refine cg_skip ?_ | refine cg_block ?_)
    refine cg_cond rfl (fun h => ?_) (fun h => ?_)
    · repeat (first | refine cg_seq ?_ | refine cg_region ?_ | refine rg_nil ?_ | refine eg_then ?_ | refine qsp ?_ | refine cg_ret ?_ | refine eg_then_ret ?_ | refine eg_in_ret ?_)
      refine eg_return rfl rfl ?_
      have h2 : m.subs[i] = tp.topic := by simpa using h
      have : tp.topic ∈ m.subs := h2 ▸ List.getElem_mem hlt
      simp [this]
    · repeat (first | refine cg_region ?_ | refine rg_nil ?_ | refine eg_then ?_ | refine qsp ?_ | refine qsa ?_ | refine cg_skip ?_ | refine eg_in_normal ?_)
      refine eg_again (i + 1) _ ⟨hle, hlt, ?_, rfl⟩ (by omega) ⟨rfl, rfl, rfl, rfl, trivial⟩
      have h2 : m.subs[i] ≠ tp.topic := by simpa using h
      rw [mem_take_succ hlt]
      rintro (h3 | h3)
      · exact hno h3
      · exact h2 h3.symm
  · repeat (first | refine cg_seq ?_ | refine cg_region ?_ | refine rg_nil ?_ | refine eg_then ?_ | refine qsp ?_ | refine cg_ret ?_ | refine cg_exit ?_ | refine eg_then_exit ?_ | refine eg_in_exit ?_)
    refine eg_return rfl rfl ?_
    have : i = m.subs.length := by simp at h; omega
    rw [this, List.take_length] at hno
    simp [hno]
theorem count_take_succ {l : List Int} {x : Int} {i : Nat} (h : i < l.length) : (l.take (i + 1)).count x = (l.take i).count x + (if l[i] = x then 1 else 0) := by
  rw [List.take_succ_eq_append_getElem h, List.count_append, List.count_singleton]
  congr 1
  simp
set_option maxHeartbeats 400000 in
theorem count_ct {k : PH} {a : Option Addr} {c : Nat} {l : List Int} (hl : Sl tInt k a c l) (m : Int) :
    CT Tryz.prog 87 #[.slice a l.length c, .int .i64 m] k (fun _ v => v = .int .i64 (l.count m : Nat)) := by
  refine ct_of_body (l := [_, _]) Tryz.func87 rfl Tryz.ntmps87 (by simp) (fun _ _ _ _ h => h) fun F hF0 hFm => ?_
  have b1 := hl.cap; have b2 := hl.max; unfold maxLen at b2
  repeat (first | refine cg_seq ?_ | refine cg_region ?_ | refine rg_nil ?_ | refine eg_then ?_ | refine qsp ?_ | refine qsn ?_ | refine cg_block ?_)
  refine cg_loop (fun (i : Nat) e k' => k' = k ∧ i ≤ l.length ∧ e = [(1, .is (.int .i64 m)), (5, .is (.int .i64 ((l.take i).count m : Nat))), (8, .is (.slice a l.length c)), (9, .is (.int .i64 (l.length : Int))), (10, .is (.int .i64 (i : Int)))])
    (fun i => l.length - i) 0 ⟨rfl, Nat.zero_le _, rfl⟩ ⟨rfl, rfl, rfl, rfl, rfl, trivial⟩ ?_
  rintro i e k1 ⟨rfl, hi, rfl⟩
  repeat (first | refine cg_seq ?_ | refine cg_region ?_ | refine rg_nil ?_ | refine eg_then ?_ | refine qsp ?_)
  refine cg_cond rfl (fun h => ?_) (fun h => ?_)
  · have hlt : i < l.length := by simpa using h
    obtain ⟨bx, ox, cx, rfl, ⟨rfl, _⟩, hcx⟩ := hl.el i l[i] (List.getElem?_eq_getElem hlt)
    have hc : (l.take i).count m ≤ i := Nat.le_trans List.count_le_length (by simp; omega)
    repeat (first | refine cg_seq ?_ | refine cg_region ?_ | refine rg_nil ?_ | refine eg_then ?_ | refine qsp ?_ | refine qsi ?_ | refine qsl ?_ | refine cg_skip ?_ | refine cg_block ?_)
    refine cg_cond rfl (fun h => ?_) (fun h => ?_)
    · repeat (first | refine cg_region ?_ | refine rg_nil ?_ | refine eg_then ?_ | refine qsp ?_ | refine qsa ?_ | refine eg_in_normal ?_)
      refine eg_again (i + 1) _ ⟨rfl, hlt, rfl⟩ (by omega) ⟨rfl, ?_, rfl, rfl, rfl, trivial⟩
      have h2 : l[i] = m := by simpa using h
      rw [count_take_succ hlt, if_pos h2]
      rfl
    · repeat (first | refine cg_region ?_ | refine rg_nil ?_ | refine eg_then ?_ | refine qsp ?_ | refine qsa ?_ | refine cg_skip ?_ | refine eg_in_normal ?_)
      refine eg_again (i + 1) _ ⟨rfl, hlt, rfl⟩ (by omega) ⟨rfl, ?_, rfl, rfl, rfl, trivial⟩
      have h2 : l[i] ≠ m := by simpa using h
      rw [count_take_succ hlt, if_neg h2]
      rfl
  · repeat (first | refine cg_seq ?_ | refine cg_region ?_ | refine rg_nil ?_ | refine eg_then ?_ | refine qsp ?_ | refine cg_ret ?_ | refine cg_exit ?_ | refine eg_then_exit ?_ | refine eg_in_exit ?_)
    refine eg_return rfl rfl ?_
    have : i = l.length := by simp at h; omega
    rw [this, List.take_length]
end Go.Wm
namespace Go.Wm
open Go.RowKit Go.Proofs
attribute [local irreducible] RG CG EG WA Loc Det Alc CT Exit.then Exit.inBlock Code.wp bodyPost
theorem okM_take_succ {l : List Member} {i : Nat} (h : i < l.length) : okM (l.take (i + 1)) = (okM (l.take i) && (!decide (l[i].id = ByteArray.empty) && !decide (l[i].id ∈ (l.take i).map (·.id)))) := by
  rw [Bool.eq_iff_iff]
  simp only [okM, Bool.and_eq_true, decide_eq_true_eq, Bool.not_eq_true', decide_eq_false_iff_not]
  rw [List.take_succ_eq_append_getElem h, List.map_append, List.nodup_append]
  simp only [List.map_cons, List.map_nil, List.mem_append, List.mem_singleton]
  constructor
  · rintro ⟨⟨h1, _, h2⟩, h3⟩
    exact ⟨⟨h1, fun h => h3 (.inl h)⟩, fun h => h3 (.inr h.symm), fun h => h2 _ h _ rfl rfl⟩
  · rintro ⟨⟨h1, h2⟩, h3, h4⟩
    refine ⟨⟨h1, by simp, fun a ha b hb => ?_⟩, ?_⟩
    · rw [hb]; rintro rfl; exact h4 ha
    · rintro (h | h)
      · exact h2 h
      · exact h3 h.symm
theorem okM_of_take {l : List Member} {i : Nat} (h : okM (l.take i) = false) : okM l = false := by
  cases e : okM l with
  | false => rfl
  | true =>
    simp only [okM, Bool.and_eq_true, decide_eq_true_eq, Bool.not_eq_true', decide_eq_false_iff_not] at e
    rw [← h]
    symm
    simp only [okM, Bool.and_eq_true, decide_eq_true_eq, Bool.not_eq_true', decide_eq_false_iff_not]
    exact ⟨e.1.sublist ((List.take_sublist i l).map _), fun h => e.2 (((List.take_sublist i l).map _).subset h)⟩
set_option maxHeartbeats 1000000 in
theorem refMembers_ct {k : PH} {a : Option Addr} {c : Nat} {l : List Member} (hl : Sl tMember k a c l) : CT Tryz.prog 82 #[.slice a l.length c] k (fun _ v => v = .bool (okM l)) := by
  refine ct_of_body (l := [_]) Tryz.func82 rfl Tryz.ntmps82 (by simp) (fun _ _ _ _ h => h) fun F hF0 hFm => ?_
  have b1 := hl.cap; have b2 := hl.max; unfold maxLen at b2
  repeat (first | refine cg_seq ?_ | refine cg_region ?_ | refine rg_nil ?_ | refine eg_then ?_ | refine qsp ?_ | refine qsn ?_ | refine cg_block ?_)
  refine cg_loop (fun (i : Nat) e k' => Le k k' ∧ i ≤ l.length ∧ okM (l.take i) = true ∧ e = [(0, .is (.slice a l.length c)), (7, .is (.slice a l.length c)), (8, .is (.int .i64 (l.length : Int))), (9, .is (.int .i64 (i : Int)))])
    (fun i => l.length - i) 0 ⟨Le.refl _, Nat.zero_le _, by simp [okM], rfl⟩ ⟨rfl, rfl, rfl, rfl, trivial⟩ ?_
  rintro i e k1 ⟨hle, hi, hok, rfl⟩
  repeat (first | refine cg_seq ?_ | refine cg_region ?_ | refine rg_nil ?_ | refine eg_then ?_ | refine qsp ?_)
  refine cg_cond rfl (fun h => ?_) (fun h => ?_)
  · have hlt : i < l.length := by simpa using h
    have hs := okM_take_succ hlt
    obtain ⟨bx, ox, cx, rfl, ⟨sa, sc, oa, oc, rfl, ⟨_, _⟩, _⟩, hcx⟩ := (hl.le hle).el i l[i] (List.getElem?_eq_getElem hlt)
    repeat (first | refine cg_seq ?_ | refine cg_region ?_ | refine eg_then ?_ | refine qsp ?_ | refine qsi ?_ | refine qsg ?_ | refine cg_skip ?_ | refine cg_block ?_)
    refine rb rfl rfl rfl rfl (a_alloc rfl) ?_; intro b5 k5 hb5 hN5 hle5 hk5
    repeat (first | refine qsp ?_)
    refine rw1 rfl rfl rfl rfl rfl rfl rfl hk5 rfl (.inl hN5) ?_ ?_; (simp [Tp.vs, Member.cs, Group.cs, Value.oneCell']); intro k6 ht6 hk6
    have c5 := (cells_at (vs := Member.cs l[i] sa sc oa oc) hk6 rfl).one (i := 0) rfl
    have hle6 : Le k1 k6 := ht6 k1 hle5 hb5
    repeat (first | refine cg_seq ?_ | refine cg_region ?_ | refine rg_nil ?_ | refine eg_then ?_ | refine qsp ?_ | refine qsl ?_ | refine qsf ?_)
    refine cg_cond rfl (fun h1 => ?_) (fun h1 => ?_)
    · repeat (first | refine cg_seq ?_ | refine cg_region ?_ | refine rg_nil ?_ | refine eg_then ?_ | refine qsp ?_ | refine cg_ret ?_ | refine eg_then_ret ?_ | refine eg_in_ret ?_)
      refine eg_return rfl rfl ?_
      have h2 : l[i].id = ByteArray.empty := of_decide_eq_true h1
      rw [okM_of_take (i := i + 1) (by rw [hs, h2]; simp)]
    · have h2 : ¬ l[i].id = ByteArray.empty := of_decide_eq_false h1
      repeat (first | refine cg_seq ?_ | refine cg_region ?_ | refine eg_then ?_ | refine qsp ?_ | refine cg_skip ?_)
      refine rs rfl rfl (loc_det rfl (d_pre (hl.le (hle.trans hle6)) rfl rfl rfl (by omega))) ?_
      repeat (first | refine rg_nil ?_ | refine eg_then ?_ | refine qsp ?_ | refine qsn ?_ | refine cg_block ?_)
      refine cg_loop (fun (j : Nat) e k' => Le k6 k' ∧ j ≤ (l.take i).length ∧ l[i].id ∉ ((l.take i).take j).map (·.id) ∧ e = [(0, .is (.slice (some ⟨bx, ox, none⟩) l.length c)), (4, .is (.pointer (some ⟨b5, 0, none⟩))), (7, .is (.slice (some ⟨bx, ox, none⟩) l.length c)), (8, .is (.int .i64 (l.length : Int))), (9, .is (.int .i64 (i : Int))), (19, .is (.slice (some ⟨bx, ox, none⟩) (l.take i).length c)), (20, .is (.int .i64 ((l.take i).length : Int))), (21, .is (.int .i64 (j : Int)))])
        (fun j => (l.take i).length - j) 0 ⟨Le.refl _, Nat.zero_le _, by simp, rfl⟩ ⟨rfl, rfl, rfl, rfl, rfl, rfl, rfl, rfl, trivial⟩ ?_
      rintro j e k7 ⟨hle7, hj, hno, rfl⟩
      have hti : (l.take i).length = i := by rw [List.length_take]; omega
      repeat (first | refine cg_seq ?_ | refine cg_region ?_ | refine rg_nil ?_ | refine eg_then ?_ | refine qsp ?_)
      refine cg_cond rfl (fun h3 => ?_) (fun h3 => ?_)
      · have hjt : j < (l.take i).length := by simpa using h3
        obtain ⟨by', oy, cy, ey, ⟨sa2, sc2, oa2, oc2, rfl, ⟨_, _⟩, _⟩, hcy⟩ := ((hl.take i).le (hle.trans (hle6.trans hle7))).el j (l.take i)[j] (List.getElem?_eq_getElem hjt)
        cases ey
        repeat (first | refine cg_seq ?_ | refine cg_region ?_ | refine eg_then ?_ | refine qsi ?_ | refine qsg ?_ | refine cg_skip ?_ | refine cg_block ?_)
        refine rb rfl rfl rfl rfl (a_alloc rfl) ?_; intro b8 k8 hb8 hN8 hle8 hk8
        refine rw1 rfl rfl rfl rfl rfl rfl rfl hk8 rfl (.inl hN8) ?_ ?_; (simp [Tp.vs, Member.cs, Group.cs, Value.oneCell']); intro k9 ht9 hk9
        have c8 := (cells_at (vs := Member.cs (l.take i)[j] sa2 sc2 oa2 oc2) hk9 rfl).one (i := 0) rfl
        have hle9 : Le k7 k9 := ht9 k7 hle8 hb8
        have c5' := c5.le (hle7.trans hle9)
        repeat (first | refine cg_seq ?_ | refine cg_region ?_ | refine rg_nil ?_ | refine eg_then ?_ | refine qsp ?_ | refine qsl ?_ | refine qsf ?_)
        refine cg_cond rfl (fun h4 => ?_) (fun h4 => ?_)
        · repeat (first | refine cg_seq ?_ | refine cg_region ?_ | refine rg_nil ?_ | refine eg_then ?_ | refine qsp ?_ | refine cg_ret ?_ | refine eg_then_ret ?_ | refine eg_in_ret ?_)
          refine eg_return rfl rfl ?_
          have h5 : (l.take i)[j].id = l[i].id := by simpa using h4
          have h6 : l[i].id ∈ (l.take i).map (·.id) := h5 ▸ List.mem_map.2 ⟨_, List.getElem_mem hjt, rfl⟩
          rw [okM_of_take (i := i + 1) (by rw [hs, decide_eq_true h6]; simp)]
        · repeat (first | refine cg_region ?_ | refine rg_nil ?_ | refine eg_then ?_ | refine qsp ?_ | refine qsa ?_ | refine cg_skip ?_ | refine eg_in_normal ?_)
          refine eg_again (j + 1) _ ⟨hle7.trans hle9, hjt, ?_, rfl⟩ (by omega) ⟨rfl, rfl, rfl, rfl, rfl, rfl, rfl, rfl, trivial⟩
          have h5 : (l.take i)[j].id ≠ l[i].id := by simpa using h4
          rw [List.take_succ_eq_append_getElem hjt, List.map_append, List.mem_append]
          rintro (h6 | h6)
          · exact hno h6
          · simp only [List.map_cons, List.map_nil, List.mem_singleton] at h6
            exact h5 h6.symm
      · repeat (first | refine cg_region ?_ | refine rg_nil ?_ | refine eg_then ?_ | refine qsp ?_ | refine qsa ?_ | refine eg_in_normal ?_ | refine cg_exit ?_ | refine eg_then_exit ?_ | refine eg_in_exit ?_)
        refine eg_again (i + 1) _ ⟨hle.trans (hle6.trans hle7), hlt, ?_, rfl⟩ (by omega) ⟨rfl, rfl, rfl, rfl, trivial⟩
        have : j = (l.take i).length := by simp only [decide_eq_false_iff_not] at h3; omega
        rw [this, List.take_length] at hno
        rw [hs, hok, decide_eq_false h2, decide_eq_false hno]
        rfl
  · repeat (first | refine cg_seq ?_ | refine cg_region ?_ | refine rg_nil ?_ | refine eg_then ?_ | refine qsp ?_ | refine cg_ret ?_ | refine cg_exit ?_ | refine eg_then_exit ?_ | refine eg_in_exit ?_)
    refine eg_return rfl rfl ?_
    have : i = l.length := by simp at h; omega
    rw [this, List.take_length] at hok
    rw [hok]
set_option maxHeartbeats 1000000 in
theorem parts22_ct {k : PH} {a : Option Addr} {c : Nat} {l : List Tp} (hl : Sl tTp k a c l) : CT Tryz.prog 83 #[.slice a l.length c] k (fun _ v => v = .bool (decide l.Nodup)) := by
  refine ct_of_body (l := [_]) Tryz.func83 rfl Tryz.ntmps83 (by simp) (fun _ _ _ _ h => h) fun F hF0 hFm => ?_
  have b1 := hl.cap; have b2 := hl.max; unfold maxLen at b2
  repeat (first | refine cg_seq ?_ | refine cg_region ?_ | refine rg_nil ?_ | refine eg_then ?_ | refine qsp ?_ | refine qsn ?_ | refine cg_block ?_)
  refine cg_loop (fun (i : Nat) e k' => Le k k' ∧ i ≤ l.length ∧ (l.take i).Nodup ∧ e = [(0, .is (.slice a l.length c)), (5, .is (.slice a l.length c)), (6, .is (.int .i64 (l.length : Int))), (7, .is (.int .i64 (i : Int)))])
    (fun i => l.length - i) 0 ⟨Le.refl _, Nat.zero_le _, by simp, rfl⟩ ⟨rfl, rfl, rfl, rfl, trivial⟩ ?_
  rintro i e k1 ⟨hle, hi, hok, rfl⟩
  repeat (first | refine cg_seq ?_ | refine cg_region ?_ | refine rg_nil ?_ | refine eg_then ?_ | refine qsp ?_)
  refine cg_cond rfl (fun h => ?_) (fun h => ?_)
  · have hlt : i < l.length := by simpa using h
    obtain ⟨bx, ox, cx, rfl, ⟨rfl, _⟩, hcx⟩ := (hl.le hle).el i l[i] (List.getElem?_eq_getElem hlt)
    repeat (first | refine cg_seq ?_ | refine cg_region ?_ | refine eg_then ?_ | refine qsp ?_ | refine qsi ?_ | refine qsg ?_ | refine cg_skip ?_ | refine cg_block ?_)
    refine rb rfl rfl rfl rfl (a_alloc rfl) ?_; intro b5 k5 hb5 hN5 hle5 hk5
    repeat (first | refine qsp ?_)
    refine rw1 rfl rfl rfl rfl rfl rfl rfl hk5 rfl (.inl hN5) ?_ ?_; (simp [Tp.vs, Member.cs, Group.cs, Value.oneCell']); intro k6 ht6 hk6
    have c5 := cells_at (vs := (l[i]).vs) hk6 rfl
    have hle6 : Le k1 k6 := ht6 k1 hle5 hb5
    repeat (first | refine cg_seq ?_ | refine rg_nil ?_ | refine eg_then ?_)
    refine cg_any (by kernel_rfl) rfl ?_
    repeat (first | refine qwp ?_)
    refine ws rfl (loc_det rfl (d_pre (hl.le (hle.trans hle6)) rfl rfl rfl (by omega))) ?_
    repeat (first | refine qwg ?_)
    refine ws rfl (loc_call_is rfl rfl rfl rfl (has22_ct ((hl.le (hle.trans hle6)).take i) l[i])) ?_
    repeat (first | (refine wn rfl ?_; refine eg_then ?_))
    by_cases hm : l[i] ∈ l.take i
    · refine cg_cond_true (by simp [opv, get, Nat.beq, hm]) ?_
      repeat (first | refine cg_seq ?_ | refine cg_region ?_ | refine rg_nil ?_ | refine eg_then ?_ | refine qsp ?_ | refine cg_ret ?_ | refine eg_then_ret ?_ | refine eg_in_ret ?_)
      refine eg_return rfl rfl ?_
      have : ¬ l.Nodup := fun hn => by
        have hn2 := (hn.sublist (List.take_sublist (i + 1) l))
        rw [nodup_take_succ hlt] at hn2
        exact hn2.2 hm
      simp [this]
    · refine cg_cond_false (by simp [opv, get, Nat.beq, hm]) ?_
      repeat (first | refine cg_region ?_ | refine rg_nil ?_ | refine eg_then ?_ | refine qsp ?_ | refine qsa ?_ | refine cg_skip ?_ | refine eg_in_normal ?_)
      exact eg_again (i + 1) _ ⟨hle.trans hle6, hlt, (nodup_take_succ hlt).2 ⟨hok, hm⟩, rfl⟩ (by omega) ⟨rfl, rfl, rfl, rfl, trivial⟩
  · repeat (first | refine cg_seq ?_ | refine cg_region ?_ | refine rg_nil ?_ | refine eg_then ?_ | refine qsp ?_ | refine cg_ret ?_ | refine cg_exit ?_ | refine eg_then_exit ?_ | refine eg_in_exit ?_)
    refine eg_return rfl rfl ?_
    have : i = l.length := by simp at h; omega
    rw [this, List.take_length] at hok
    simp [hok]
end Go.Wm
namespace Go.Wm
open Go.RowKit Go.Proofs
attribute [local irreducible] RG CG EG WA Loc Det Alc CT Exit.then Exit.inBlock Code.wp bodyPost
def anyW (l : List Member) (tp : Tp) : Bool := l.any fun m => decide (tp.topic ∈ m.subs)
/-- A partition stands rightly with member i. -/
def goodTp (l : List Member) (tps : List Tp) (own : List (List Tp)) (i : Nat) (tp : Tp) : Bool :=
  decide (tp.topic ∈ ((l[i]?).map (·.subs)).getD []) && (decide (tp ∈ tps) && (List.range l.length).all fun k => !(decide (tp.topic ∈ ((l[k]?).map (·.subs)).getD []) && decide (((own.getD i []).length : Int) - ((own.getD k []).length : Int) > 1)))
def evenA (l : List Member) (tps : List Tp) (own : List (List Tp)) : Bool :=
  okM l && (decide tps.Nodup && (decide (own.length = l.length) && (decide own.flatten.Nodup && (((List.range own.length).all fun i => (own.getD i []).all (goodTp l tps own i)) && decide ((lenTo own own.length : Int) - (tps.countP (anyW l) : Nat) = 0)))))
end Go.Wm
-- cut by zcut
namespace Go.Wm
open Go.RowKit Go.Proofs
section
variable {l : List Member} {tps : List Tp}
theorem cmpM_neg {l : List Member} {n : Nat} {w : List Int} {i j : Nat} (hn : n = l.length) (hi : i < l.length) (hj : j < l.length) :
    (cmpM l (cnts n w) (i : Int) (j : Int) < 0) ↔ (w.count (i : Int) < w.count (j : Int) ∨ (w.count (i : Int) = w.count (j : Int) ∧ l[i].id.data.toList < l[j].id.data.toList)) := by
  subst hn
  have h1 : (cnts l.length w).getD ((i : Int).toNat) 0 = ((w.count (i : Int) : Nat) : Int) := by simp [cnts, hi]
  have h2 : (cnts l.length w).getD ((j : Int).toNat) 0 = ((w.count (j : Int) : Nat) : Int) := by simp [cnts, hj]
  unfold cmpM
  rw [h1, h2]
  simp only [Int.toNat_natCast, List.getElem?_eq_getElem hi, List.getElem?_eq_getElem hj, Option.map_some, Option.getD_some]
  unfold cmpInt cmpStr
  by_cases a1 : w.count (i : Int) < w.count (j : Int)
  · have : ((w.count (i : Int) : Nat) : Int) < ((w.count (j : Int) : Nat) : Int) := by omega
    simp [a1, orInt]
  · by_cases a2 : w.count (j : Int) < w.count (i : Int)
    · have a3 : ¬ w.count (i : Int) = w.count (j : Int) := by omega
      simp [a1, a2, a3, orInt]
    · have a3 : w.count (i : Int) = w.count (j : Int) := by omega
      have f1 : ¬ ((w.count (j : Int) : Nat) : Int) < ((w.count (j : Int) : Nat) : Int) := by omega
      rw [a3, if_neg f1]
      simp only [f1, if_false, Nat.lt_irrefl, false_or, true_and]
      by_cases b1 : l[i].id.data.toList < l[j].id.data.toList
      · simp [orInt, b1]
      · by_cases b2 : l[j].id.data.toList < l[i].id.data.toList <;> simp [orInt, b1, b2]

/-- A member's number, or nobody. -/
def Val (n : Nat) (x : Int) : Prop := x = -1 ∨ (0 ≤ x ∧ x < n)
def Good (n : Nat) (w : List Int) : Prop := ∀ x ∈ w, Val n x
theorem WInv.good {l : List Member} {tps : List Tp} {w : List Int} (h : WInv l tps w) : Good l.length w := by
  intro x hx
  obtain ⟨p, hp⟩ := List.getElem?_of_mem hx
  have hpl : p < w.length := (List.getElem?_eq_some_iff.1 hp).1
  have hpt : p < tps.length := by rw [← h.len]; exact hpl
  rcases h.at' p x tps[p] hp (List.getElem?_eq_getElem hpt) with h1 | ⟨i, h1, hi, _⟩
  · exact .inl h1
  · exact .inr ⟨by omega, by omega⟩
def idL (l : List Member) (i : Nat) : List UInt8 := ((l[i]?).map (·.id.data.toList)).getD []
/-- Fewer, or as many and the lesser name. -/
def keyLt (l : List Member) (w : List Int) (i j : Nat) : Prop := w.count (i : Int) < w.count (j : Int) ∨ (w.count (i : Int) = w.count (j : Int) ∧ idL l i < idL l j)
/-- What nobody has, nobody wants. -/
def Full (l : List Member) (tps : List Tp) (w : List Int) (n : Nat) : Prop := ∀ p tp, p < n → w[p]? = some (-1) → tps[p]? = some tp → ∀ x, ¬ Wants l tp x
end
end Go.Wm
namespace Go.Wm
open Go.RowKit Go.Proofs
attribute [local irreducible] RG CG EG WA Loc Det Alc CT Exit.then Exit.inBlock Code.wp bodyPost
theorem sl_ints {k : PH} {b : Nat} {w : List Int} (h : k b = some (.cells (w.map (Value.int .i64)).toArray 3 (0, 0))) (hw : ∀ x ∈ w, I64 x) (hm : w.length ≤ maxLen) : Sl tInt k (some ⟨b, 0, none⟩) w.length w := by
  refine ⟨Nat.le_refl _, hm, by simp, by simp, fun i x hx => ?_⟩
  have hi : i < w.length := (List.getElem?_eq_some_iff.1 hx).1
  have hg := (List.getElem?_eq_some_iff.1 hx).2
  refine ⟨b, 0, [.int .i64 x], rfl, ⟨rfl, hw x (List.mem_of_getElem? hx)⟩, ?_⟩
  have := cells_ints h hi
  rw [hg] at this
  exact this
/-- The best of the first i. -/
def bestM (l : List Member) (tp : Tp) (many : List Int) (i : Nat) : Int := match whoL l tp i with
  | [] => -1
  | w => minBy (cmpM l many) w
theorem bestM_all (l : List Member) (tp : Tp) (many : List Int) : bestM l tp many l.length = leastM l tp many := rfl
theorem minBy_snoc (cmp : Int → Int → Int) (w : List Int) (hw : w ≠ []) (y : Int) : minBy cmp (w ++ [y]) = if cmp y (minBy cmp w) < 0 then y else minBy cmp w := by
  cases w with
  | nil => exact absurd rfl hw
  | cons x r =>
    simp only [minBy, List.cons_append, List.foldl_append, List.foldl_cons, List.foldl_nil]
    rfl
theorem bestM_no {l : List Member} {tp : Tp} {many : List Int} {i : Nat} (h : i < l.length) (hw : tp.topic ∉ l[i].subs) : bestM l tp many (i + 1) = bestM l tp many i := by
  unfold bestM
  rw [whoL_succ h, if_neg hw, List.append_nil]
theorem bestM_first {l : List Member} {tp : Tp} {many : List Int} {i : Nat} (h : i < l.length) (hw : tp.topic ∈ l[i].subs) (hb : bestM l tp many i < 0) : bestM l tp many (i + 1) = (i : Int) := by
  have : whoL l tp i = [] := by
    unfold bestM at hb
    split at hb
    · assumption
    · rename_i hne
      have hm := minBy_mem (cmpM l many) _ hne
      obtain ⟨j, hj, _⟩ := whoL_mem hm
      omega
  unfold bestM
  rw [whoL_succ h, if_pos hw, this]
  rfl
theorem bestM_next {l : List Member} {tp : Tp} {many : List Int} {i : Nat} (h : i < l.length) (hw : tp.topic ∈ l[i].subs) (hb : ¬ bestM l tp many i < 0) :
    bestM l tp many (i + 1) = if cmpM l many (i : Int) (bestM l tp many i) < 0 then (i : Int) else bestM l tp many i := by
  have hne : whoL l tp i ≠ [] := by
    intro h0
    unfold bestM at hb
    rw [h0] at hb
    simp at hb
  have e1 : bestM l tp many i = minBy (cmpM l many) (whoL l tp i) := by
    unfold bestM
    split
    · rename_i h0; exact absurd h0 hne
    · rfl
  have e2 : bestM l tp many (i + 1) = minBy (cmpM l many) (whoL l tp (i + 1)) := by
    unfold bestM
    split
    · rename_i h0
      rw [whoL_succ h, if_pos hw] at h0
      simp at h0
    · rfl
  rw [e2, whoL_succ h, if_pos hw, minBy_snoc _ _ hne, ← e1]
theorem bestM_lt {l : List Member} {tp : Tp} {many : List Int} {i : Nat} : bestM l tp many i = -1 ∨ ∃ j : Nat, bestM l tp many i = (j : Int) ∧ j < i := by
  unfold bestM
  split
  · exact .inl rfl
  · rename_i hne
    exact .inr (whoL_mem (minBy_mem (cmpM l many) _ hne))
set_option maxHeartbeats 2000000 in
theorem fewest_ct {k : PH} {la ga : Option Addr} {lc gc : Nat} {l : List Member} {got : List Int} (hl : Sl tMember k la lc l) (hg : Sl tInt k ga gc got) (tp : Tp) :
    CT Tryz.prog 86 #[.slice la l.length lc, .slice ga got.length gc, .agg tp.vs.toArray] k (fun _ v => v = .int .i64 (leastW l tp got)) := by
  refine ct_of_body (l := [_, _, _]) Tryz.func86 rfl Tryz.ntmps86 (by simp) (fun _ _ _ _ h => h) fun F hF0 hFm => ?_
  have b1 := hl.cap; have b2 := hl.max; unfold maxLen at b2
  repeat (first | refine cg_seq ?_ | refine cg_region ?_)
  refine rb rfl rfl rfl rfl (a_box rfl rfl) ?_; intro b3 k3 hb3 hN3 hle3 hk3
  have c3 := cells_at (vs := tp.vs) hk3 rfl
  repeat (first | refine cg_seq ?_ | refine cg_region ?_ | refine rg_nil ?_ | refine eg_then ?_ | refine qsp ?_ | refine qsn ?_ | refine cg_block ?_)
  refine cg_loop (fun (i : Nat) e k' => Le k3 k' ∧ i ≤ l.length ∧ e = [(0, .is (.slice la l.length lc)), (1, .is (.slice ga got.length gc)), (5, .is (.pointer (some ⟨b3, 0, none⟩))), (7, .is (.int .i64 (bestM l tp (cnts l.length got) i))), (10, .is (.slice la l.length lc)), (11, .is (.int .i64 (l.length : Int))), (12, .is (.int .i64 (i : Int)))])
    (fun i => l.length - i) 0 ⟨Le.refl _, Nat.zero_le _, rfl⟩ ⟨rfl, rfl, rfl, rfl, rfl, rfl, rfl, trivial⟩ ?_
  rintro i e k1 ⟨hle, hi, rfl⟩
  repeat (first | refine cg_seq ?_ | refine cg_region ?_ | refine rg_nil ?_ | refine eg_then ?_ | refine qsp ?_)
  refine cg_cond rfl (fun h => ?_) (fun h => ?_)
  · have hlt : i < l.length := by simpa using h
    have hle0 : Le k k1 := hle3.trans hle
    obtain ⟨bx, ox, cx, rfl, hrep, hcx⟩ := (hl.le hle0).el i l[i] (List.getElem?_eq_getElem hlt)
    obtain ⟨sa, sc, oa, oc, rfl, ⟨hsub, hown⟩, hid⟩ := hrep
    repeat (first | refine cg_seq ?_ | refine cg_region ?_ | refine eg_then ?_ | refine qsp ?_ | refine qsi ?_ | refine qsg ?_ | refine cg_skip ?_ | refine cg_block ?_)
    refine rb rfl rfl rfl rfl (a_alloc rfl) ?_; intro b5 k5 hb5 hN5 hle5 hk5
    repeat (first | refine qsp ?_)
    refine rw1 rfl rfl rfl rfl rfl rfl rfl hk5 rfl (.inl hN5) ?_ ?_; (simp [Tp.vs, Member.cs, Group.cs, Value.oneCell']); intro k6 ht6 hk6
    have c5 := cells_at (vs := Member.cs l[i] sa sc oa oc) hk6 rfl
    have hle6 : Le k1 k6 := ht6 k1 hle5 hb5
    have c3' := c3.le (hle.trans hle6)
    have hgot := hg.le (hle0.trans hle6)
    have hrep6 : tMember.rep k6 (Member.cs l[i] sa sc oa oc) l[i] := ⟨sa, sc, oa, oc, rfl, ⟨hsub.le hle6, hown.le hle6⟩, hid⟩
    repeat (first | refine cg_seq ?_ | refine cg_region ?_ | refine rg_nil ?_ | refine eg_then ?_ | refine qsg ?_)
    refine rs rfl rfl (loc_call_is rfl rfl rfl rfl (refWants_ct hrep6 tp)) ?_
    repeat (first | refine rg_nil ?_ | refine eg_then ?_ | refine qsp ?_)
    by_cases hw : tp.topic ∈ l[i].subs
    · refine cg_cond_false (by simp [opv, get, Nat.beq, hw]) ?_
      repeat (first | refine cg_seq ?_ | refine eg_then ?_ | refine cg_skip ?_)
      have c5a := c5.one (i := 0) rfl
      rcases bestM_lt (l := l) (tp := tp) (many := cnts l.length got) (i := i) with hb | ⟨j, hb, hji⟩
      · have hnx := bestM_first (many := cnts l.length got) hlt hw (by omega)
        rw [hb]
        refine cg_any (by kernel_rfl) rfl ?_
        repeat (first | refine qwp ?_ | refine qwo ?_ | (refine wn rfl ?_; refine eg_then ?_))
        refine cg_cond_true rfl ?_
        repeat (first | refine cg_region ?_ | refine rg_nil ?_ | refine eg_then ?_ | refine qsp ?_ | refine qsa ?_ | refine eg_in_normal ?_)
        refine eg_again (i + 1) _ ⟨hle.trans hle6, hlt, rfl⟩ (by omega) ⟨rfl, rfl, rfl, ?_, rfl, rfl, rfl, trivial⟩
        rw [hnx]; rfl
      · have hnx := bestM_next (many := cnts l.length got) hlt hw (by omega)
        have hcm := cmpM_neg (w := got) rfl hlt (show j < l.length by omega)
        rw [hb] at hnx
        rw [hb]
        obtain ⟨by', oy, cy, ey, ⟨sa2, sc2, oa2, oc2, rfl, ⟨_, _⟩, _⟩, hcy⟩ := (hl.le (hle0.trans hle6)).el j l[j] (List.getElem?_eq_getElem (by omega))
        cases ey
        have cy0 := hcy.one (i := 0) rfl
        by_cases q1 : got.count (i : Int) < got.count (j : Int)
        · have q1' : decide (((got.count (i : Int) : Nat) : Int) < ((got.count (j : Int) : Nat) : Int)) = true := by simp [q1]
          refine cg_any (by kernel_rfl) rfl ?_
          repeat (first | refine qwp ?_)
          refine ws rfl (loc_call_is rfl rfl rfl rfl (count_ct hgot (i : Int))) ?_
          repeat (first | refine qwp ?_)
          refine ws rfl (loc_call_is rfl rfl rfl rfl (count_ct hgot (j : Int))) ?_
          repeat (first | refine qwp ?_)
          rw [q1']
          repeat (first | refine qwp ?_ | refine qwo ?_ | (refine wn rfl ?_; refine eg_then ?_))
          refine cg_cond_true rfl ?_
          repeat (first | refine cg_region ?_ | refine rg_nil ?_ | refine eg_then ?_ | refine qsp ?_ | refine qsa ?_ | refine eg_in_normal ?_)
          refine eg_again (i + 1) _ ⟨hle.trans hle6, hlt, rfl⟩ (by omega) ⟨rfl, rfl, rfl, ?_, rfl, rfl, rfl, trivial⟩
          rw [hnx, if_pos (hcm.2 (.inl q1))]; rfl
        · have q1' : decide (((got.count (i : Int) : Nat) : Int) < ((got.count (j : Int) : Nat) : Int)) = false := by simp [q1]
          by_cases q2 : got.count (i : Int) = got.count (j : Int)
          · have q2' : (((got.count (i : Int) : Nat) : Int) == ((got.count (j : Int) : Nat) : Int)) = true := by simp [q2]
            have hc2 : (cmpM l (cnts l.length got) (i : Int) (j : Int) < 0) ↔ l[i].id.data.toList < l[j].id.data.toList := by
              rw [hcm]; simp [q2]
            refine cg_any (by kernel_rfl) rfl ?_
            repeat (first | refine qwp ?_)
            refine ws rfl (loc_call_is rfl rfl rfl rfl (count_ct hgot (i : Int))) ?_
            repeat (first | refine qwp ?_)
            refine ws rfl (loc_call_is rfl rfl rfl rfl (count_ct hgot (j : Int))) ?_
            repeat (first | refine qwp ?_)
            rw [q1']
            repeat (first | refine qwp ?_)
            refine ws rfl (loc_call_is rfl rfl rfl rfl (count_ct hgot (i : Int))) ?_
            repeat (first | refine qwp ?_)
            refine ws rfl (loc_call_is rfl rfl rfl rfl (count_ct hgot (j : Int))) ?_
            repeat (first | refine qwp ?_)
            rw [q2']
            repeat (first | refine qwp ?_ | refine qwi ?_ | refine qwl ?_ | refine qwf ?_ | (refine wn rfl ?_; refine eg_then ?_))
            refine cg_cond rfl (fun h4 => ?_) (fun h4 => ?_)
            · repeat (first | refine cg_region ?_ | refine rg_nil ?_ | refine eg_then ?_ | refine qsp ?_ | refine qsa ?_ | refine eg_in_normal ?_)
              refine eg_again (i + 1) _ ⟨hle.trans hle6, hlt, rfl⟩ (by omega) ⟨rfl, rfl, rfl, ?_, rfl, rfl, rfl, trivial⟩
              rw [hnx, if_pos (hc2.2 (by simpa using h4))]; rfl
            · repeat (first | refine cg_region ?_ | refine rg_nil ?_ | refine eg_then ?_ | refine qsp ?_ | refine qsa ?_ | refine cg_skip ?_ | refine eg_in_normal ?_)
              refine eg_again (i + 1) _ ⟨hle.trans hle6, hlt, rfl⟩ (by omega) ⟨rfl, rfl, rfl, ?_, rfl, rfl, rfl, trivial⟩
              rw [hnx, if_neg (fun hh => by have := hc2.1 hh; simp at h4; exact absurd this h4)]; rfl
          · have q2' : (((got.count (i : Int) : Nat) : Int) == ((got.count (j : Int) : Nat) : Int)) = false := beq_eq_false_iff_ne.2 (fun h => q2 (by omega))
            refine cg_any (by kernel_rfl) rfl ?_
            repeat (first | refine qwp ?_)
            refine ws rfl (loc_call_is rfl rfl rfl rfl (count_ct hgot (i : Int))) ?_
            repeat (first | refine qwp ?_)
            refine ws rfl (loc_call_is rfl rfl rfl rfl (count_ct hgot (j : Int))) ?_
            repeat (first | refine qwp ?_)
            rw [q1']
            repeat (first | refine qwp ?_)
            refine ws rfl (loc_call_is rfl rfl rfl rfl (count_ct hgot (i : Int))) ?_
            repeat (first | refine qwp ?_)
            refine ws rfl (loc_call_is rfl rfl rfl rfl (count_ct hgot (j : Int))) ?_
            repeat (first | refine qwp ?_)
            rw [q2']
            repeat (first | refine qwp ?_ | refine qwo ?_ | (refine wn rfl ?_; refine eg_then ?_))
            refine cg_cond_false rfl ?_
            repeat (first | refine cg_region ?_ | refine rg_nil ?_ | refine eg_then ?_ | refine qsp ?_ | refine qsa ?_ | refine cg_skip ?_ | refine eg_in_normal ?_)
            refine eg_again (i + 1) _ ⟨hle.trans hle6, hlt, rfl⟩ (by omega) ⟨rfl, rfl, rfl, ?_, rfl, rfl, rfl, trivial⟩
            rw [hnx, if_neg (fun hh => by rcases hcm.1 hh with h | ⟨h, _⟩ <;> omega)]; rfl
    · refine cg_cond_true (by simp [opv, get, Nat.beq, hw]) ?_
      repeat (first | refine cg_region ?_ | refine rg_nil ?_ | refine eg_then ?_ | refine qsp ?_ | refine qsa ?_ | refine cg_exit ?_ | refine eg_then_exit ?_ | refine eg_in_exit ?_)
      refine eg_again (i + 1) _ ⟨hle.trans hle6, hlt, rfl⟩ (by omega) ⟨rfl, rfl, rfl, ?_, rfl, rfl, rfl, trivial⟩
      rw [bestM_no hlt hw]; rfl
  · repeat (first | refine cg_seq ?_ | refine cg_region ?_ | refine rg_nil ?_ | refine eg_then ?_ | refine qsp ?_ | refine cg_ret ?_ | refine cg_exit ?_ | refine eg_then_exit ?_ | refine eg_in_exit ?_)
    refine eg_return rfl rfl ?_
    have : i = l.length := by simp at h; omega
    rw [this, bestM_all]
    rfl
end Go.Wm

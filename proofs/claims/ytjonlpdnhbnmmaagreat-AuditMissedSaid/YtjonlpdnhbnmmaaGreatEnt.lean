/-
  'm[k] op= v' in a region in order: the entry, and its store, one behind the other. Conditions: none beyond those of each law.
-/
import Derived.Test.YtjonlpdnhbnmmaaGreatCuQ
import Derived.Test.YtjonlpdnhbnmmaaGreatBits
import Derived.Test.YtjonlpdnhbnmmaaGreatCoB
set_option linter.all false
namespace Go.Wm
open Go.RowKit Go.Proofs
attribute [local irreducible] RG CG EG WA Loc Det Alc CT Exit.then Exit.inBlock Code.wp bodyPost

def sumN (m : List Int) : Nat := (m.map Int.toNat).sum
def marksOf (l : List View) (m : List Int) : List Mark := (l.zip m).map fun p => ⟨p.1.tp, p.2⟩
theorem marksOf_len {l : List View} {m : List Int} (h : m.length = l.length) : (marksOf l m).length = l.length := by simp [marksOf, h]
theorem marksOf_succ {l : List View} {m : List Int} {i : Nat} (hi : i < l.length) (hm : i < m.length) : marksOf (l.take (i + 1)) (m.take (i + 1)) = marksOf (l.take i) (m.take i) ++ [⟨l[i].tp, m[i]⟩] := by
  unfold marksOf
  rw [List.take_succ_eq_append_getElem hi, List.take_succ_eq_append_getElem hm, List.zip_append (by simp; omega), List.map_append]
  rfl
/-- Where ended ones begin is no less than 0. -/
def FirstsOk (l : List View) : Prop := ∀ v ∈ l, (∀ g ∈ v.tx.done, 0 ≤ g.first) ∧ (∀ g ∈ v.tx.gone, 0 ≤ g.first) ∧ 0 ≤ stabP v.tx v.high
theorem ended_first {l : List Gone} (h : Ended l) : ∀ g ∈ l, 0 ≤ g.first ∧ g.first < g.last := fun g hg => by
  obtain ⟨i, hi, rfl⟩ := List.getElem_of_mem hg
  have := (h i hi).1
  simp only [okGone, Bool.and_eq_true, decide_eq_true_eq] at this
  exact ⟨this.2.2.2.1, this.2.2.2.2.1⟩
theorem txP_and {t : Tx} : txP t = true ↔ Opens t.openV ∧ Ended t.gone ∧ Ended t.done := by simp [txP]
theorem firsts_ok {l : List View} (h : MayV l) : FirstsOk l := fun v hv => by
  obtain ⟨i, hi, rfl⟩ := List.getElem_of_mem hv
  obtain ⟨_, _, h3, h4, _⟩ := h i hi
  obtain ⟨h5, h6, h7⟩ := txP_and.1 h3
  refine ⟨fun g hg => (ended_first h7 g hg).1, fun g hg => (ended_first h6 g hg).1, le_foldMin _ _ _ h4 fun o ho _ => ?_⟩
  obtain ⟨j, hj, rfl⟩ := List.getElem_of_mem ho
  have := (h5 j hj).1
  simp only [inO, Bool.and_eq_true, decide_eq_true_eq] at this
  exact this.2.1
theorem stable_nonneg {l : List View} (hl : FirstsOk l) : ∀ n ∈ stableL l, 0 ≤ n := fun n hn => by
  unfold stableL at hn
  rw [List.mem_map] at hn
  obtain ⟨v, hv, rfl⟩ := hn
  exact (hl v hv).2.2

/-- What a cut tells. -/
def CutR (l : List View) (k' : PH) (v : Value) : Prop :=
  if MayV l then ∃ m a c, IsCut l (stableL l) m ∧ (∀ n ∈ m, 0 ≤ n) ∧ v = .tuple #[.slice a (marksOf l m).length c, .int .i64 0] ∧ Sl tMark k' a c (marksOf l m)
  else v = .tuple #[.slice none 0 0, .int .i64 1]
theorem CutR.mono {l : List View} : ∀ k k' v, Le k k' → CutR l k v → CutR l k' v := fun k k' v hle h => by
  unfold CutR at h ⊢
  split
  · rename_i hm
    rw [if_pos hm] at h
    obtain ⟨m, a, c, h1, h2, h3, h4⟩ := h
    exact ⟨m, a, c, h1, h2, h3, h4.le hle⟩
  · rename_i hm
    rw [if_neg hm] at h
    exact h
theorem view_tp {k : PH} {a : Option Addr} {c : Nat} {l : List View} (hl : Sl tView k a c l) : ∀ v ∈ l, v.ok := fun v hv => by
  obtain ⟨i, hi, rfl⟩ := List.getElem_of_mem hv
  obtain ⟨_, _, _, _, ⟨_, _, _, _, _, _, _, _, hk⟩, _⟩ := hl.el i l[i] (List.getElem?_eq_getElem hi)
  exact hk
end Go.Wm
-- cut by zcut
namespace Go.Wm
open Go.RowKit Go.Proofs
attribute [local irreducible] RG CG EG WA Loc Det Alc CT Exit.then Exit.inBlock Code.wp bodyPost

def SmallV (l : List View) : Prop := ∀ v ∈ l, v.tx.openV.length ≤ 1000000 ∧ v.tx.gone.length ≤ 1000000 ∧ v.tx.done.length ≤ 1000000

set_option maxHeartbeats 2000000 in
theorem may_ct {k : PH} {a : Option Addr} {c : Nat} {l : List View} (hl : Sl tView k a c l) (hsmall : SmallV l) :
    CT Tryz.prog 85 #[.slice a l.length c] k (fun _ v => v = .bool (decide (MayV l))) := by
  refine ct_of_body (l := [_]) Tryz.func85 rfl Tryz.ntmps85 (by simp) (fun _ _ _ _ h => h) fun F hF0 hFm => ?_
  have b1 := hl.cap; have b2 := hl.max; unfold maxLen at b2
  repeat (first | refine cg_seq ?_ | refine cg_region ?_ | refine rg_nil ?_ | refine eg_then ?_ | refine qsp ?_ | refine qsn ?_ | refine cg_block ?_)
  refine cg_loop (fun (i : Nat) e k' => Le k k' ∧ i ≤ l.length ∧ (∀ j, (h : j < l.length) → j < i → MayAt l j h) ∧ e = [(0, .is (.slice a l.length c)), (6, .is (.slice a l.length c)), (7, .is (.int .i64 (l.length : Int))), (8, .is (.int .i64 (i : Int)))])
    (fun i => l.length - i) 0 ⟨Le.refl _, Nat.zero_le _, fun j _ hj => by omega, rfl⟩ ⟨rfl, rfl, rfl, rfl, trivial⟩ ?_
  rintro i e k1 ⟨hle, hi, hno, rfl⟩
  repeat (first | refine cg_seq ?_ | refine cg_region ?_ | refine rg_nil ?_ | refine eg_then ?_ | refine qsp ?_)
  refine cg_cond rfl (fun h => ?_) (fun h => ?_)
  · have hlt : i < l.length := by simpa using h
    obtain ⟨bx, ox, cx, rfl, ⟨a0, c0, a1, c1, a2, c2, rfl, ⟨so, sg, sd⟩, hok⟩, hcx⟩ := hl.el i l[i] (List.getElem?_eq_getElem hlt)
    have hsm := hsmall l[i] (List.getElem_mem hlt)
    have hcx1 := hcx.le hle
    have bad : ¬ MayAt l i hlt → Value.bool false = .bool (decide (MayV l)) := fun hb => by
      rw [decide_eq_false]
      exact fun ha => hb (ha i hlt)
    have good : MayAt l i hlt → ∀ j, (h : j < l.length) → j < i + 1 → MayAt l j h := fun hg j hj hji => by
      by_cases e : j = i
      · subst e; exact hg
      · exact hno j hj (by omega)
    repeat (first | refine cg_seq ?_ | refine cg_region ?_ | refine eg_then ?_ | refine qsp ?_ | refine qsi ?_ | refine qsg ?_ | refine cg_skip ?_ | refine cg_block ?_)
    refine rb rfl rfl rfl rfl (a_alloc rfl) ?_; intro b7 k7 hb7 hN7 hle7 hk7
    repeat (first | refine qsp ?_)
    refine rw1 rfl rfl rfl rfl rfl rfl rfl hk7 rfl (.inl hN7) ?_ ?_; (simp [Tp.vs, Mark.vs, OpenT.vs, Gone.vs, Tx.cs, View.cs, Rec.vs, Batch.cs, Who.vs, Pl.vs, Told.vs, Fact.vs, Place.vs, Value.oneCell']); intro k8 ht8 hk8
    have c8 := cells_at (vs := l[i].cs a0 c0 a1 c1 a2 c2) hk8 rfl
    have hle8 : Le k1 k8 := ht8 k1 hle7 hb7
    obtain ⟨r0, r1, r2⟩ := View.parts c8
    repeat (first | refine cg_seq ?_ | refine cg_region ?_ | refine rg_nil ?_ | refine eg_then ?_ | refine qsg ?_ | refine qsf ?_)
    refine rb rfl rfl rfl rfl (a_alloc rfl) ?_; intro b9 k9 hb9 hN9 hle9 hk9
    skip
    refine rw1 rfl rfl rfl rfl rfl rfl rfl hk9 rfl (.inl hN9) ?_ ?_; (simp [Tp.vs, Mark.vs, OpenT.vs, Gone.vs, Tx.cs, View.cs, Rec.vs, Batch.cs, Who.vs, Pl.vs, Told.vs, Fact.vs, Place.vs, Value.oneCell']); intro k10 ht10 hk10
    have c10 := cells_at (vs := l[i].tp.vs) hk10 rfl
    have hle10 : Le k8 k10 := ht10 k8 hle9 hb9
    have hl10 := hle.trans (hle8.trans hle10)
    have cv10 := c8.le hle10
    obtain ⟨y0, y1, y2⟩ := View.parts cv10
    have c10' := c10
    obtain ⟨p0, p1, p2⟩ := Tp.parts c10
    have htpd : tpP l[i].tp = (isName l[i].tp.topic && (decide (0 ≤ l[i].tp.part) && (decide (l[i].tp.part < 6) && (decide (0 ≤ l[i].tp.home) && decide (l[i].tp.home < 4))))) := rfl
    repeat (first | refine cg_seq ?_ | refine rg_nil ?_ | refine eg_then ?_)
    refine cg_any (by kernel_rfl) rfl ?_
    repeat (first | refine qwl ?_ | refine qwf ?_)
    refine ws rfl (loc_call_is rfl rfl rfl rfl (name_ct l[i].tp.topic hok.1.1)) ?_
    repeat (first | refine qwp ?_)
    cases n1 : isName l[i].tp.topic
    · repeat (first | refine qwp ?_ | refine qwo ?_ | (refine wn rfl ?_; refine eg_then ?_))
      repeat (first | refine cg_seq ?_ | refine cg_region ?_ | refine rg_nil ?_ | refine eg_then ?_ | refine qsp ?_ | refine cg_cond_true rfl ?_ | refine cg_ret ?_ | refine eg_then_ret ?_ | refine eg_in_ret ?_)
      exact eg_return rfl rfl (bad (fun hm => by have := hm.1; rw [htpd, n1] at this; cases this))
    repeat (first | refine qwp ?_ | refine qwl ?_ | refine qwf ?_)
    cases n2 : decide (l[i].tp.part < 0)
    rotate_left
    · repeat (first | refine qwp ?_ | refine qwo ?_ | (refine wn rfl ?_; refine eg_then ?_))
      repeat (first | refine cg_seq ?_ | refine cg_region ?_ | refine rg_nil ?_ | refine eg_then ?_ | refine qsp ?_ | refine cg_cond_true rfl ?_ | refine cg_ret ?_ | refine eg_then_ret ?_ | refine eg_in_ret ?_)
      exact eg_return rfl rfl (bad (fun hm => by have := hm.1; rw [htpd] at this; simp at this n2; omega))
    repeat (first | refine qwp ?_ | refine qwl ?_ | refine qwf ?_)
    cases n3 : decide (l[i].tp.part ≥ 6)
    rotate_left
    · repeat (first | refine qwp ?_ | refine qwo ?_ | (refine wn rfl ?_; refine eg_then ?_))
      repeat (first | refine cg_seq ?_ | refine cg_region ?_ | refine rg_nil ?_ | refine eg_then ?_ | refine qsp ?_ | refine cg_cond_true rfl ?_ | refine cg_ret ?_ | refine eg_then_ret ?_ | refine eg_in_ret ?_)
      exact eg_return rfl rfl (bad (fun hm => by have := hm.1; rw [htpd] at this; simp at this n3; omega))
    repeat (first | refine qwp ?_ | refine qwl ?_ | refine qwf ?_)
    cases n4 : decide (l[i].tp.home < 0)
    rotate_left
    · repeat (first | refine qwp ?_ | refine qwo ?_ | (refine wn rfl ?_; refine eg_then ?_))
      repeat (first | refine cg_seq ?_ | refine cg_region ?_ | refine rg_nil ?_ | refine eg_then ?_ | refine qsp ?_ | refine cg_cond_true rfl ?_ | refine cg_ret ?_ | refine eg_then_ret ?_ | refine eg_in_ret ?_)
      exact eg_return rfl rfl (bad (fun hm => by have := hm.1; rw [htpd] at this; simp at this n4; omega))
    repeat (first | refine qwp ?_ | refine qwl ?_ | refine qwf ?_)
    cases n5 : decide (l[i].tp.home ≥ 4)
    rotate_left
    · repeat (first | refine qwp ?_ | refine qwo ?_ | (refine wn rfl ?_; refine eg_then ?_))
      repeat (first | refine cg_seq ?_ | refine cg_region ?_ | refine rg_nil ?_ | refine eg_then ?_ | refine qsp ?_ | refine cg_cond_true rfl ?_ | refine cg_ret ?_ | refine eg_then_ret ?_ | refine eg_in_ret ?_)
      exact eg_return rfl rfl (bad (fun hm => by have := hm.1; rw [htpd] at this; simp at this n5; omega))
    have htp : tpP l[i].tp = true := by
      simp at n2 n3 n4 n5
      rw [htpd]
      simp [n1, n2, n3, n4, n5]
    repeat (first | refine qwp ?_)
    cases q7 : decide ((i : Int) > 0)
    · repeat (first | refine qwp ?_ | refine qwo ?_ | (refine wn rfl ?_; refine eg_then ?_))
      have hl1 : 0 < i → tpLess l[i - 1].tp l[i].tp = true := fun h => by simp at q7; omega
      repeat (first | refine cg_seq ?_ | refine cg_region ?_ | refine eg_then ?_ | refine qsg ?_ | refine qsf ?_ | refine cg_cond_false rfl ?_ | refine cg_skip ?_)
      refine rs rfl rfl (loc_call_is rfl rfl rfl rfl (txCheck_ct ⟨so.le hl10, sg.le hl10, sd.le hl10⟩ hsm.2.1 hsm.2.2)) ?_
      simp only [errOf]
      repeat (first | refine qsp ?_)
      obtain ⟨y0, y1, y2⟩ := View.parts cv10
      skip
      cases q2 : txP l[i].tx
      · repeat (first | refine cg_seq ?_ | refine cg_region ?_ | refine rg_nil ?_ | refine eg_then ?_ | refine qsp ?_ | refine qso ?_ | refine cg_cond_true rfl ?_ | refine cg_ret ?_ | refine eg_then_ret ?_ | refine eg_in_ret ?_)
        exact eg_return rfl rfl (bad (fun hm => by rw [hm.2.2.1] at q2; cases q2))
      repeat (first | refine qsp ?_ | refine qsl ?_ | refine qsf ?_)
      cases q3 : decide (l[i].high < 0)
      rotate_left
      · repeat (first | refine cg_seq ?_ | refine cg_region ?_ | refine rg_nil ?_ | refine eg_then ?_ | refine qsp ?_ | refine qso ?_ | refine cg_cond_true rfl ?_ | refine cg_ret ?_ | refine eg_then_ret ?_ | refine eg_in_ret ?_)
        exact eg_return rfl rfl (bad (fun hm => by have := hm.2.2.2.1; simp at q3; omega))
      repeat (first | refine rg_nil ?_ | refine eg_then ?_ | refine qsp ?_ | refine qsl ?_ | refine qsf ?_)
      refine cg_cond rfl (fun h2 => ?_) (fun h2 => ?_)
      · repeat (first | refine cg_seq ?_ | refine cg_region ?_ | refine rg_nil ?_ | refine eg_then ?_ | refine qsp ?_ | refine cg_ret ?_ | refine eg_then_ret ?_ | refine eg_in_ret ?_)
        exact eg_return rfl rfl (bad (fun hm => by have := hm.2.2.2.2; simp at h2; omega))
      · repeat (first | refine cg_region ?_ | refine rg_nil ?_ | refine eg_then ?_ | refine qsp ?_ | refine qsa ?_ | refine cg_skip ?_ | refine eg_in_normal ?_)
        refine eg_again (i + 1) _ ⟨hl10, hlt, good ⟨htp, hl1, q2, by simp at q3; omega, by simp at h2; omega⟩, rfl⟩ (by omega) ⟨rfl, rfl, rfl, rfl, trivial⟩
    have hi0 : 0 < i := by simp at q7; omega
    have hlt' : i - 1 < l.length := by omega
    obtain ⟨by', oy, cy, ey, ⟨d0, e0, d1, e1, d2, e2, rfl, _, hok'⟩, hcy⟩ := hl.el (i - 1) l[i - 1] (List.getElem?_eq_getElem hlt')
    cases ey
    have hcy1 := hcy.le hl10
    obtain ⟨s0, s1, s2⟩ := View.parts hcy1
    have hsub : ((i - 1 : Nat) : Int) = (i : Int) - 1 := by omega
    have c10'' := c10
    repeat (first | refine qwp ?_ | refine qws ?_)
    rw [← hsub]
    repeat (first | refine qwi ?_ | refine qwg ?_ | refine qwf ?_)
    refine ws rfl (loc_call_is rfl rfl rfl rfl (ord_ct l[i - 1].tp l[i].tp trivial)) ?_
    repeat (first | refine qwp ?_ | (refine wn rfl ?_; refine eg_then ?_))
    rw [ordTp_less]
    cases q8 : tpLess l[i - 1].tp l[i].tp
    · skip
      repeat (first | refine cg_seq ?_ | refine cg_region ?_ | refine rg_nil ?_ | refine eg_then ?_ | refine qsp ?_ | refine cg_cond_true rfl ?_ | refine cg_ret ?_ | refine eg_then_ret ?_ | refine eg_in_ret ?_)
      exact eg_return rfl rfl (bad (fun hm => by rw [hm.2.1 hi0] at q8; cases q8))
    · skip
      have hl1 : 0 < i → tpLess l[i - 1].tp l[i].tp = true := fun _ => q8
      repeat (first | refine cg_seq ?_ | refine cg_region ?_ | refine eg_then ?_ | refine qsg ?_ | refine qsf ?_ | refine cg_cond_false rfl ?_ | refine cg_skip ?_)
      refine rs rfl rfl (loc_call_is rfl rfl rfl rfl (txCheck_ct ⟨so.le hl10, sg.le hl10, sd.le hl10⟩ hsm.2.1 hsm.2.2)) ?_
      simp only [errOf]
      repeat (first | refine qsp ?_)
      obtain ⟨y0, y1, y2⟩ := View.parts cv10
      skip
      cases q2 : txP l[i].tx
      · repeat (first | refine cg_seq ?_ | refine cg_region ?_ | refine rg_nil ?_ | refine eg_then ?_ | refine qsp ?_ | refine qso ?_ | refine cg_cond_true rfl ?_ | refine cg_ret ?_ | refine eg_then_ret ?_ | refine eg_in_ret ?_)
        exact eg_return rfl rfl (bad (fun hm => by rw [hm.2.2.1] at q2; cases q2))
      repeat (first | refine qsp ?_ | refine qsl ?_ | refine qsf ?_)
      cases q3 : decide (l[i].high < 0)
      rotate_left
      · repeat (first | refine cg_seq ?_ | refine cg_region ?_ | refine rg_nil ?_ | refine eg_then ?_ | refine qsp ?_ | refine qso ?_ | refine cg_cond_true rfl ?_ | refine cg_ret ?_ | refine eg_then_ret ?_ | refine eg_in_ret ?_)
        exact eg_return rfl rfl (bad (fun hm => by have := hm.2.2.2.1; simp at q3; omega))
      repeat (first | refine rg_nil ?_ | refine eg_then ?_ | refine qsp ?_ | refine qsl ?_ | refine qsf ?_)
      refine cg_cond rfl (fun h2 => ?_) (fun h2 => ?_)
      · repeat (first | refine cg_seq ?_ | refine cg_region ?_ | refine rg_nil ?_ | refine eg_then ?_ | refine qsp ?_ | refine cg_ret ?_ | refine eg_then_ret ?_ | refine eg_in_ret ?_)
        exact eg_return rfl rfl (bad (fun hm => by have := hm.2.2.2.2; simp at h2; omega))
      · repeat (first | refine cg_region ?_ | refine rg_nil ?_ | refine eg_then ?_ | refine qsp ?_ | refine qsa ?_ | refine cg_skip ?_ | refine eg_in_normal ?_)
        refine eg_again (i + 1) _ ⟨hl10, hlt, good ⟨htp, hl1, q2, by simp at q3; omega, by simp at h2; omega⟩, rfl⟩ (by omega) ⟨rfl, rfl, rfl, rfl, trivial⟩
  · repeat (first | refine cg_seq ?_ | refine cg_region ?_ | refine rg_nil ?_ | refine eg_then ?_ | refine qsp ?_ | refine cg_ret ?_ | refine cg_exit ?_ | refine eg_then_exit ?_ | refine eg_in_exit ?_)
    refine eg_return rfl rfl ?_
    have hin : i = l.length := by simp at h; omega
    rw [decide_eq_true]
    exact fun j hj => hno j hj (by omega)
end Go.Wm
namespace Go.Wm
open Go.RowKit Go.Proofs
attribute [local irreducible] RG CG EG WA Loc Det Alc CT Exit.then Exit.inBlock Code.wp bodyPost

set_option maxHeartbeats 1000000 in
theorem safe_ctn {k : PH} {a : Option Addr} {c : Nat} {x : List View} (hx : Sl tView k a c x) (hb : x.length ≤ 1000000) (hsmall : SmallV x) :
    CTN Tryz.prog 86 #[.slice a x.length c] k (fun N k' v => Row N k' 3 1 v (stableL x).length (curR (stableL x))) := by
  refine ctn_of_body (l := [_]) Tryz.func86 rfl Tryz.ntmps86 (by simp) (fun N k k' v hle h => h.le hle) fun F hF0 hFm => ?_
  have b1 := hx.cap; have b2 := hx.max; unfold maxLen at b2
  repeat (first | refine cg_seq ?_ | refine cg_region ?_ | refine rg_nil ?_ | refine eg_then ?_ | refine qsp ?_ | refine qsn ?_ | refine cg_block ?_)
  refine cg_loop (fun (i : Nat) e k' => ∃ v, Le k k' ∧ Row F.w0.heap.size k' 3 1 v i ((stableL (x.take i)).flatMap fun n => [Value.int .i64 n]) ∧ Apart k v ∧ i ≤ x.length ∧ e = [(3, .is v), (6, .is (.slice a x.length c)), (7, .is (.int .i64 (x.length : Int))), (8, .is (.int .i64 (i : Int)))])
    (fun i => x.length - i) 0 ⟨.slice none 0 0, Le.refl _, row_nil _ _ _ _, apart_nil _ _ _, Nat.zero_le _, rfl⟩ ⟨rfl, rfl, rfl, rfl, trivial⟩ ?_
  rintro i e k1 ⟨v, hle, hrow, hap, hi, rfl⟩
  repeat (first | refine cg_seq ?_ | refine cg_region ?_ | refine rg_nil ?_ | refine eg_then ?_ | refine qsp ?_)
  refine cg_cond rfl (fun h => ?_) (fun h => ?_)
  · have hlt : i < x.length := by simpa using h
    obtain ⟨bx, ox, cx, rfl, ⟨a0, c0, a1, c1, a2, c2, rfl, ⟨so, sg, sd⟩, hok⟩, hcx⟩ := hx.el i x[i] (List.getElem?_eq_getElem hlt)
    have hsm := hsmall x[i] (List.getElem_mem hlt)
    have hsn : stableL (x.take (i + 1)) = stableL (x.take i) ++ [stabP x[i].tx x[i].high] := by
      rw [List.take_succ_eq_append_getElem hlt, stableL, List.map_append]
      rfl
    have hcx1 := hcx.le hle
    repeat (first | refine cg_seq ?_ | refine cg_region ?_ | refine eg_then ?_ | refine qsi ?_ | refine qsg ?_ | refine cg_skip ?_ | refine cg_block ?_)
    refine rb rfl rfl rfl rfl (a_alloc rfl) ?_; intro b7 k7 hb7 hN7 hle7 hk7
    skip
    refine rw1 rfl rfl rfl rfl rfl rfl rfl hk7 rfl (.inl hN7) ?_ ?_; (simp [Tp.vs, Mark.vs, OpenT.vs, Gone.vs, Tx.cs, View.cs, Rec.vs, Batch.cs, Who.vs, Pl.vs, Told.vs, Fact.vs, Place.vs, Value.oneCell']); intro k8 ht8 hk8
    have c8 := cells_at (vs := x[i].cs a0 c0 a1 c1 a2 c2) hk8 rfl
    have hle8 : Le k1 k8 := ht8 k1 hle7 hb7
    have hl8 := hle.trans hle8
    obtain ⟨r0, r1, r2⟩ := View.parts c8
    repeat (first | refine cg_region ?_ | refine rg_nil ?_ | refine eg_then ?_ | refine qsp ?_ | refine qsl ?_ | refine qsg ?_ | refine qsf ?_)
    refine rs rfl rfl (loc_call_is rfl rfl rfl rfl (txStable_ct x[i].high ⟨so.le hl8, sg.le hl8, sd.le hl8⟩ hsm.1)) ?_
    skip
    refine rb rfl rfl rfl rfl (a_slice rfl rfl rfl rfl (by kernel_rfl) rfl) ?_; intro b11 k11 hb11 hN11 hle11 hk11
    have c11 := cells_at (vs := [Value.int .i64 (stabP x[i].tx x[i].high)]) hk11 rfl
    refine rap rfl rfl rfl rfl rfl rfl rfl (hrow.le (hle8.trans hle11)) c11 rfl (by simp [Value.oneCell']) rfl rfl (by unfold maxLen; omega) (by omega) ?_
    intro v' k12 hrow12 hturn
    obtain ⟨hle12, hap12⟩ := hturn k (hl8.trans hle11) hap
    repeat (first | refine cg_region ?_ | refine rg_nil ?_ | refine eg_then ?_ | refine qsp ?_ | refine qsa ?_ | refine eg_in_normal ?_)
    refine eg_again (i + 1) _ ⟨v', hle12, ?_, hap12, hlt, rfl⟩ (by omega) ⟨rfl, rfl, rfl, rfl, trivial⟩
    rw [hsn, List.flatMap_append]
    exact hrow12
  · repeat (first | refine cg_seq ?_ | refine cg_region ?_ | refine rg_nil ?_ | refine eg_then ?_ | refine qsp ?_ | refine cg_ret ?_ | refine cg_exit ?_ | refine eg_then_exit ?_ | refine eg_in_exit ?_)
    have hil : i = x.length := by simp at h; omega
    rw [hil, List.take_length] at hrow
    have hrow : Row F.w0.heap.size k1 3 1 v (stableL x).length ((stableL x).flatMap fun n => [Value.int .i64 n]) := by rw [show (stableL x).length = x.length by simp [stableL]]; exact hrow
    rw [← curR_eq] at hrow
    have h5 := hrow.2
    rcases h5 with ⟨rfl, _⟩ | ⟨g, cap, cur, rfl, _⟩
    · exact eg_return rfl rfl hrow
    · exact eg_return rfl rfl hrow
end Go.Wm
namespace Go.Wm

abbrev Ev := Nat × Gone
def evPl (q : Ev) : Pl := ⟨(q.1 : Int), q.2.first, q.2.last⟩
def evD (l : List View) : List Ev := l.zipIdx.flatMap fun q => q.1.tx.done.map fun g => (q.2, g)
def evG (l : List View) : List Ev := l.zipIdx.flatMap fun q => q.1.tx.gone.map fun g => (q.2, g)
theorem evD_succ {l : List View} {i : Nat} (h : i < l.length) : evD (l.take (i + 1)) = evD (l.take i) ++ l[i].tx.done.map fun g => (i, g) := by
  unfold evD
  rw [List.take_succ_eq_append_getElem h, List.zipIdx_append, List.flatMap_append]
  congr 1
  simp [Nat.min_eq_left (Nat.le_of_lt h)]
theorem evG_succ {l : List View} {i : Nat} (h : i < l.length) : evG (l.take (i + 1)) = evG (l.take i) ++ l[i].tx.gone.map fun g => (i, g) := by
  unfold evG
  rw [List.take_succ_eq_append_getElem h, List.zipIdx_append, List.flatMap_append]
  congr 1
  simp [Nat.min_eq_left (Nat.le_of_lt h)]
theorem evD_len {l : List View} {n : Nat} (h : ∀ v ∈ l, v.tx.done.length ≤ n) : (evD l).length ≤ l.length * n := by
  have key : ∀ (l : List View) (k : Nat), (∀ v ∈ l, v.tx.done.length ≤ n) → ((l.zipIdx k).flatMap fun q => q.1.tx.done.map fun g => (q.2, g)).length ≤ l.length * n := by
    intro l
    induction l with
    | nil => intro k _; simp
    | cons v l ih =>
      intro k h
      rw [List.zipIdx_cons, List.flatMap_cons, List.length_append, List.length_cons, Nat.succ_mul]
      have h1 := ih (k + 1) fun v hv => h v (by simp [hv])
      have h2 := h v (by simp)
      simp only [List.length_map] at h1 ⊢
      omega
  exact key l 0 h
theorem evG_len {l : List View} {n : Nat} (h : ∀ v ∈ l, v.tx.gone.length ≤ n) : (evG l).length ≤ l.length * n := by
  have key : ∀ (l : List View) (k : Nat), (∀ v ∈ l, v.tx.gone.length ≤ n) → ((l.zipIdx k).flatMap fun q => q.1.tx.gone.map fun g => (q.2, g)).length ≤ l.length * n := by
    intro l
    induction l with
    | nil => intro k _; simp
    | cons v l ih =>
      intro k h
      rw [List.zipIdx_cons, List.flatMap_cons, List.length_append, List.length_cons, Nat.succ_mul]
      have h1 := ih (k + 1) fun v hv => h v (by simp [hv])
      have h2 := h v (by simp)
      simp only [List.length_map] at h1 ⊢
      omega
  exact key l 0 h
theorem mem_evD {l : List View} {q : Ev} : q ∈ evD l ↔ ∃ h : q.1 < l.length, q.2 ∈ l[q.1].tx.done := by
  unfold evD
  simp only [List.mem_flatMap, List.mem_map]
  constructor
  · rintro ⟨⟨v, i⟩, hq, g, hg, rfl⟩
    rw [List.mk_mem_zipIdx_iff_getElem?] at hq
    obtain ⟨hi, rfl⟩ := List.getElem?_eq_some_iff.1 hq
    exact ⟨hi, hg⟩
  · rintro ⟨hi, hg⟩
    exact ⟨(l[q.1], q.1), List.mk_mem_zipIdx_iff_getElem?.2 (List.getElem?_eq_getElem hi), q.2, hg, rfl⟩
theorem mem_evG {l : List View} {q : Ev} : q ∈ evG l ↔ ∃ h : q.1 < l.length, q.2 ∈ l[q.1].tx.gone := by
  unfold evG
  simp only [List.mem_flatMap, List.mem_map]
  constructor
  · rintro ⟨⟨v, i⟩, hq, g, hg, rfl⟩
    rw [List.mk_mem_zipIdx_iff_getElem?] at hq
    obtain ⟨hi, rfl⟩ := List.getElem?_eq_some_iff.1 hq
    exact ⟨hi, hg⟩
  · rintro ⟨hi, hg⟩
    exact ⟨(l[q.1], q.1), List.mk_mem_zipIdx_iff_getElem?.2 (List.getElem?_eq_getElem hi), q.2, hg, rfl⟩
def ofTx (pid no : Int) (D : List Ev) : List Pl := (D.filter fun q => decide (q.2.pid = pid) && decide (q.2.no = no)).map evPl
theorem ofTx_all (l : List View) (pid no : Int) : ofTx pid no (evD l) = donePl l pid no := by
  unfold ofTx evD donePl
  rw [List.filter_flatMap, List.map_flatMap]
  congr 1
  funext q
  rw [List.filter_map, List.map_map]
  rfl
theorem ofTx_snoc (pid no : Int) (D : List Ev) (q : Ev) : ofTx pid no (D ++ [q]) = if q.2.pid = pid ∧ q.2.no = no then ofTx pid no D ++ [evPl q] else ofTx pid no D := by
  unfold ofTx
  rw [List.filter_append, List.map_append]
  by_cases h : q.2.pid = pid ∧ q.2.no = no
  · rw [if_pos h]
    simp [h.1, h.2]
  · rw [if_neg h]
    have : (decide (q.2.pid = pid) && decide (q.2.no = no)) = false := by
      rw [Bool.eq_false_iff]
      intro e
      rw [Bool.and_eq_true, decide_eq_true_eq, decide_eq_true_eq] at e
      exact h e
    simp [this]
def keyD (g : Gone) : Who := ⟨g.pid, g.no, 0⟩

/-- What has been gathered of those ended (D) and of those aborted (G). -/
structure Gath (E : List (Who × List Pl)) (D G : List Ev) : Prop where
  keys : (E.map (·.1)).Nodup
  zero : ∀ e ∈ E, e.1.alone = 0 → e.2 = ofTx e.1.pid e.1.no D
  more : ∀ e ∈ E, e.1.alone ≠ 0 → ∃ q ∈ G, e.2 = [evPl q]
  few : ∀ e ∈ E, 0 ≤ e.1.alone ∧ e.1.alone ≤ E.length
  done : ∀ q ∈ D, ∃ e ∈ E, e.1 = keyD q.2
  gone : ∀ q ∈ G, ∃ e ∈ E, e.1.alone ≠ 0 ∧ e.2 = [evPl q]
  count : E.length ≤ D.length + G.length
theorem Gath.nil : Gath [] [] [] := ⟨by simp, by simp, by simp, by simp, by simp, by simp, by simp⟩
theorem uniq_key {α β : Type} [DecidableEq α] {E : List (α × β)} (hk : (E.map (·.1)).Nodup) {a b : α × β} (ha : a ∈ E) (hb : b ∈ E) (e : a.1 = b.1) : a = b := by
  obtain ⟨i, hi, rfl⟩ := List.getElem_of_mem ha
  obtain ⟨j, hj, rfl⟩ := List.getElem_of_mem hb
  have hp := List.pairwise_iff_getElem.1 hk
  rcases Nat.lt_trichotomy i j with h | h | h
  · exact absurd (by rw [List.getElem_map, List.getElem_map]; exact e) (hp i j (by simpa using hi) (by simpa using hj) h)
  · subst h; rfl
  · exact absurd (by rw [List.getElem_map, List.getElem_map]; exact e.symm) (hp j i (by simpa using hj) (by simpa using hi) h)
/-- One ended that stands there already. -/
def addAt (w : Who) (p : Pl) (E : List (Who × List Pl)) : List (Who × List Pl) := E.map fun e => if e.1 = w then (e.1, e.2 ++ [p]) else e
theorem addAt_keys (w : Who) (p : Pl) (E : List (Who × List Pl)) : (addAt w p E).map (·.1) = E.map (·.1) := by
  unfold addAt
  rw [List.map_map]
  apply List.map_congr_left
  intro a _
  simp only [Function.comp]
  split <;> rfl
theorem keyD_eq {w : Who} {g : Gone} : w = keyD g ↔ w.alone = 0 ∧ g.pid = w.pid ∧ g.no = w.no := by
  constructor
  · rintro rfl; exact ⟨rfl, rfl, rfl⟩
  · rintro ⟨h1, h2, h3⟩
    cases w
    simp only [keyD] at h1 h2 h3 ⊢
    rw [h1, h2, h3]
theorem Gath.addD {E : List (Who × List Pl)} {D G : List Ev} (h : Gath E D G) (q : Ev) (hk : keyD q.2 ∈ E.map (·.1)) : Gath (addAt (keyD q.2) (evPl q) E) (D ++ [q]) G := by
  have hmem : ∀ e ∈ addAt (keyD q.2) (evPl q) E, ∃ a ∈ E, a.1 = e.1 ∧ ((a.1 = keyD q.2 ∧ e.2 = a.2 ++ [evPl q]) ∨ (a.1 ≠ keyD q.2 ∧ e = a)) := fun e he => by
    obtain ⟨a, ha, rfl⟩ := List.mem_map.1 he
    by_cases hw : a.1 = keyD q.2
    · exact ⟨a, ha, by rw [if_pos hw], .inl ⟨hw, by rw [if_pos hw]⟩⟩
    · exact ⟨a, ha, by rw [if_neg hw], .inr ⟨hw, by rw [if_neg hw]⟩⟩
  have hlen : (addAt (keyD q.2) (evPl q) E).length = E.length := by simp [addAt]
  have hfwd : ∀ a ∈ E, a.1 ≠ keyD q.2 → a ∈ addAt (keyD q.2) (evPl q) E := fun a ha hw => List.mem_map.2 ⟨a, ha, by rw [if_neg hw]⟩
  have hfwd' : ∀ a ∈ E, ∃ e ∈ addAt (keyD q.2) (evPl q) E, e.1 = a.1 := fun a ha => ⟨_, List.mem_map.2 ⟨a, ha, rfl⟩, by split <;> rfl⟩
  refine ⟨by rw [addAt_keys]; exact h.keys, fun e he h0 => ?_, fun e he h0 => ?_, fun e he => ?_, fun x hx => ?_, fun x hx => ?_, by rw [hlen]; have := h.count; simp; omega⟩
  · obtain ⟨a, ha, e1, h2 | h2⟩ := hmem e he
    · rw [ofTx_snoc, if_pos, h2.2, h.zero a ha (by rw [e1]; exact h0), e1]
      have := keyD_eq.1 h2.1
      rw [← e1]
      exact this.2
    · obtain ⟨hw, rfl⟩ := h2
      rw [ofTx_snoc, if_neg, h.zero e ha h0]
      intro hh
      exact hw (keyD_eq.2 ⟨h0, hh⟩)
  · obtain ⟨a, ha, e1, h2 | h2⟩ := hmem e he
    · have := (keyD_eq.1 h2.1).1
      rw [e1] at this
      exact absurd this h0
    · obtain ⟨hw, rfl⟩ := h2
      exact h.more e ha h0
  · obtain ⟨a, ha, e1, _⟩ := hmem e he
    rw [hlen, ← e1]
    exact h.few a ha
  · rcases List.mem_append.1 hx with hx | hx
    · obtain ⟨a, ha, e1⟩ := h.done x hx
      obtain ⟨e, he, e2⟩ := hfwd' a ha
      exact ⟨e, he, by rw [e2, e1]⟩
    · simp at hx
      subst hx
      obtain ⟨a, ha, e1⟩ := List.mem_map.1 hk
      obtain ⟨e, he, e2⟩ := hfwd' a ha
      exact ⟨e, he, by rw [e2, e1]⟩
  · obtain ⟨a, ha, e0, e1⟩ := h.gone x hx
    exact ⟨a, hfwd a ha (fun hw => e0 (keyD_eq.1 hw).1), e0, e1⟩
/-- One ended that stands there not yet. -/
theorem Gath.newD {E : List (Who × List Pl)} {D G : List Ev} (h : Gath E D G) (q : Ev) (hk : keyD q.2 ∉ E.map (·.1)) : Gath (E ++ [(keyD q.2, [evPl q])]) (D ++ [q]) G := by
  have hno : ofTx q.2.pid q.2.no D = [] := by
    unfold ofTx
    rw [List.map_eq_nil_iff, List.filter_eq_nil_iff]
    intro x hx hh
    simp only [Bool.and_eq_true, decide_eq_true_eq] at hh
    obtain ⟨e, he, e1⟩ := h.done x hx
    refine hk (List.mem_map.2 ⟨e, he, ?_⟩)
    rw [e1]
    simp [keyD, hh.1, hh.2]
  refine ⟨?_, fun e he h0 => ?_, fun e he h0 => ?_, fun e he => ?_, fun x hx => ?_, fun x hx => ?_, by have := h.count; simp; omega⟩
  · rw [List.map_append, List.nodup_append]
    refine ⟨h.keys, by simp, fun a ha b hb => ?_⟩
    simp at hb
    subst hb
    rintro rfl
    exact hk ha
  · rcases List.mem_append.1 he with he | he
    · rw [ofTx_snoc, if_neg, h.zero e he h0]
      intro hh
      exact hk (List.mem_map.2 ⟨e, he, keyD_eq.2 ⟨h0, hh⟩⟩)
    · simp at he
      subst he
      show [evPl q] = ofTx q.2.pid q.2.no (D ++ [q])
      rw [ofTx_snoc, if_pos ⟨rfl, rfl⟩, hno]
      rfl
  · rcases List.mem_append.1 he with he | he
    · exact h.more e he h0
    · simp at he
      subst he
      exact absurd rfl h0
  · rw [List.length_append]
    rcases List.mem_append.1 he with he | he
    · have := h.few e he
      simp only [List.length_cons, List.length_nil]
      omega
    · simp at he
      subst he
      simp [keyD]
      omega
  · rcases List.mem_append.1 hx with hx | hx
    · obtain ⟨a, ha, e1⟩ := h.done x hx
      exact ⟨a, by simp [ha], e1⟩
    · simp at hx
      subst hx
      exact ⟨_, List.mem_append.2 (.inr (List.mem_singleton.2 rfl)), rfl⟩
  · obtain ⟨a, ha, e0, e1⟩ := h.gone x hx
    exact ⟨a, by simp [ha], e0, e1⟩
def keyG (g : Gone) (n : Nat) : Who := ⟨g.pid, g.no, (n : Int) + 1⟩
theorem Gath.freshG {E : List (Who × List Pl)} {D G : List Ev} (h : Gath E D G) (g : Gone) : keyG g E.length ∉ E.map (·.1) := fun hm => by
  obtain ⟨e, he, e1⟩ := List.mem_map.1 hm
  have := (h.few e he).2
  rw [e1] at this
  simp only [keyG] at this
  omega
/-- One aborted. -/
theorem Gath.addG {E : List (Who × List Pl)} {D G : List Ev} (h : Gath E D G) (q : Ev) : Gath (E ++ [(keyG q.2 E.length, [evPl q])]) D (G ++ [q]) := by
  have hk := h.freshG q.2
  have hne : (keyG q.2 E.length).alone ≠ 0 := by simp only [keyG]; omega
  refine ⟨?_, fun e he h0 => ?_, fun e he h0 => ?_, fun e he => ?_, fun x hx => ?_, fun x hx => ?_, by have := h.count; simp; omega⟩
  · rw [List.map_append, List.nodup_append]
    refine ⟨h.keys, by simp, fun a ha b hb => ?_⟩
    simp at hb
    subst hb
    rintro rfl
    exact hk ha
  · rcases List.mem_append.1 he with he | he
    · exact h.zero e he h0
    · simp at he
      subst he
      exact absurd h0 hne
  · rcases List.mem_append.1 he with he | he
    · obtain ⟨x, hx, e1⟩ := h.more e he h0
      exact ⟨x, by simp [hx], e1⟩
    · simp at he
      subst he
      exact ⟨q, by simp, rfl⟩
  · rw [List.length_append]
    rcases List.mem_append.1 he with he | he
    · have := h.few e he
      simp only [List.length_cons, List.length_nil]
      omega
    · simp at he
      subst he
      simp only [keyG, List.length_cons, List.length_nil]
      refine ⟨by omega, by omega⟩
  · obtain ⟨a, ha, e1⟩ := h.done x hx
    exact ⟨a, by simp [ha], e1⟩
  · rcases List.mem_append.1 hx with hx | hx
    · obtain ⟨a, ha, e0, e1⟩ := h.gone x hx
      exact ⟨a, by simp [ha], e0, e1⟩
    · simp at hx
      subst hx
      exact ⟨_, List.mem_append.2 (.inr (List.mem_singleton.2 rfl)), hne, rfl⟩
theorem Gath.places {l : List View} {E : List (Who × List Pl)} (h : Gath E (evD l) (evG l)) : Places l (E.map (·.2)) := by
  refine ⟨fun ps hps => ?_, fun i hi g hg => ?_, fun i hi g hg => ?_⟩
  · obtain ⟨e, he, rfl⟩ := List.mem_map.1 hps
    by_cases h0 : e.1.alone = 0
    · exact .inl ⟨e.1.pid, e.1.no, by rw [h.zero e he h0, ofTx_all]⟩
    · obtain ⟨q, hq, e1⟩ := h.more e he h0
      obtain ⟨hi, hg⟩ := mem_evG.1 hq
      exact .inr ⟨q.1, hi, q.2, hg, e1⟩
  · obtain ⟨e, he, e1⟩ := h.done (i, g) (mem_evD.2 ⟨hi, hg⟩)
    refine List.mem_map.2 ⟨e, he, ?_⟩
    rw [h.zero e he (by rw [e1]; rfl), ofTx_all, e1]
    rfl
  · obtain ⟨e, he, _, e1⟩ := h.gone (i, g) (mem_evG.2 ⟨hi, hg⟩)
    exact List.mem_map.2 ⟨e, he, e1⟩
end Go.Wm
namespace Go.Wm
open Go.RowKit
section
variable {P : Program} {F : Fr} {n : Nat} {Q : Exit → Act → World → Prop} {e : Env} {k : PH} {kt : TypeId} {α : Type} [DecidableEq α] {enc : α → Value} {ops : Array Oper} {o : Oper} {rest : List Oper}
/-- 'mapEntry'. -/
theorem r_entry {t et : TypeId} {sz bs d : Nat} {z : Value} {m key : Operand} {r : Nat} {x : α} {es : List (α × Value × Nat)} {cl : Nat} [ht : TyU P t (.map kt et)] [hz : TyI P et sz bs z] [h : KeyOk P kt enc] (hd : o.dst = some d) (hf : Nat.blt d n = true) (hdet : det e = true) (hg : o.guard = none) (hop : o.op = .mapEntry t m key) (hmv : opv e m = some (.map (some r))) (hkv : opv e key = some (enc x))
    (hk : k r = some (.map (es.map (toE enc)).toArray cl)) (hr : F.w0.heap.size ≤ r)
    (hh : RG P F n ops Q rest ((d, .is (.tuple #[atE x z es, .int .i64 ((entE x z es cl).2.2 : Nat)])) :: e) (upd k r (.map (((entE x z es cl).1).map (toE enc)).toArray (entE x z es cl).2.1))) : RG P F n ops Q (o :: rest) e k := by
  intro a w ha hs
  unfold wpList
  rw [if_pos (by simp [Region.wanted, hg])]
  have hev := evs_of (ops := ops) (o := o) (ag_looks ha)
  rw [hop] at hev
  have hw := hs.sub _ _ hk
  have hrun : (execOp a.eval o).run P w = .ok (.value (.tuple #[atE x z es, .int .i64 ((entE x z es cl).2.2 : Nat)])) { w with heap := w.heap.setIfInBounds r (.map (((entE x z es cl).1).map (toE enc)).toArray (entE x z es cl).2.1) } := by
    have := run_entry (P := P) (t := t) hw x (z := z)
    simp [execOp, hop, hev m (by simp [Op.operands]) _ hmv, hev key (by simp [Op.operands]) _ hkv, this]
  refine .inl (ex_value hrun _ _ ?_)
  rintro u w' ⟨rfl, rfl⟩
  rw [hd]
  exact hh _ _ ((ha.heap hdet).put (d := some d) (p := .is _) hf rfl) (hs.turn (.inl hr) rfl rfl rfl (by simp) (heap_setObj hw) fun i hi _ => by simp [Array.getElem?_setIfInBounds, Ne.symm hi])
theorem erase_map {β γ : Type} (f : β → γ) : ∀ (l : List β) (i : Nat), (l.map f).eraseIdx i = (l.eraseIdx i).map f
  | [], i => by simp
  | x :: l, 0 => by simp
  | x :: l, i + 1 => by simp [erase_map f l i]
/-- The entries without those of a key. -/
def delE (x : α) (es : List (α × Value × Nat)) : List (α × Value × Nat) := match lookE x es 0 with
  | some (i, _) => es.eraseIdx i
  | none => es
theorem run_delete {t et : TypeId} [ht : TyU P t (.map kt et)] [h : KeyOk P kt enc] {r : Nat} {es : List (α × Value × Nat)} {cl : Nat} {w : World} (hw : w.heap[r]? = some (.map (es.map (toE enc)).toArray cl)) (x : α) (ty : TypeId) (ats : Array TypeId) (ha : ats[0]? = some t) :
    (Builtin.delete_ ats ty #[.map (some r), enc x]).run P w = .ok (.tuple #[]) { w with heap := w.heap.setIfInBounds r (.map ((delE x es).map (toE enc)).toArray cl) } := by
  unfold delE
  cases hl : lookE x es 0 with
  | none => simp [Builtin.delete_, ha, run_underlying ht.eq, run_getObj_map w _ _ _ hw, h.chk, run_find, hl, set_map _ hw]
  | some p =>
    obtain ⟨i, v⟩ := p
    simp [Builtin.delete_, ha, run_underlying ht.eq, run_getObj_map w _ _ _ hw, h.chk, run_find, hl, set_map _ hw, erase_map]
/-- 'delete(m, k)'. -/
theorem r_delete {t et : TypeId} {ats : Array TypeId} {m key : Operand} {r : Nat} {x : α} {es : List (α × Value × Nat)} {cl : Nat} [ht : TyU P t (.map kt et)] [h : KeyOk P kt enc] (hd : o.dst = none) (hdet : det e = true) (hg : o.guard = none) (hop : o.op = .call { callee := .builtin .delete, args := #[m, key], argTypes := ats }) (hat : ats[0]? = some t) (hmv : opv e m = some (.map (some r))) (hkv : opv e key = some (enc x))
    (hk : k r = some (.map (es.map (toE enc)).toArray cl)) (hr : F.w0.heap.size ≤ r)
    (hh : RG P F n ops Q rest e (upd k r (.map ((delE x es).map (toE enc)).toArray cl))) : RG P F n ops Q (o :: rest) e k := by
  intro a w ha hs
  unfold wpList
  rw [if_pos (by simp [Region.wanted, hg])]
  have hev := evs_of (ops := ops) (o := o) (ag_looks ha)
  rw [hop] at hev
  have hw := hs.sub _ _ hk
  have hrun : (execOp a.eval o).run P w = .ok (.value (.tuple #[])) { w with heap := w.heap.setIfInBounds r (.map ((delE x es).map (toE enc)).toArray cl) } := by
    have := run_delete (P := P) (t := t) hw x o.type ats hat
    simp [execOp, hop, resolve, invoke, builtin, hev m (by simp [Op.operands, Call.operands]) _ hmv, hev key (by simp [Op.operands, Call.operands]) _ hkv, this]
  refine .inl (ex_value hrun _ _ ?_)
  rintro u w' ⟨rfl, rfl⟩
  rw [hd]
  exact hh _ _ (ha.heap hdet) (hs.turn (.inl hr) rfl rfl rfl (by simp) (heap_setObj hw) fun i hi _ => by simp [Array.getElem?_setIfInBounds, Ne.symm hi])
end
end Go.Wm
namespace Go.Wm
open Go.RowKit
section
variable {α : Type} [DecidableEq α]
/-- Without the first of a key. -/
def kdel1 {β : Type} (x : α) : List (α × β) → List (α × β)
  | [] => []
  | p :: l => if x = p.1 then l else p :: kdel1 x l
theorem kdel1_sub {β : Type} (x : α) : ∀ l : List (α × β), (kdel1 x l).Sublist l
  | [] => List.Sublist.refl _
  | p :: l => by
    simp only [kdel1]
    split
    · exact List.sublist_cons_self _ _
    · exact (kdel1_sub x l).cons₂ _
theorem kdel1_map {β γ : Type} (x : α) (f : β → γ) : ∀ l : List (α × β), kdel1 x (l.map fun p => (p.1, f p.2)) = (kdel1 x l).map fun p => (p.1, f p.2)
  | [] => rfl
  | p :: l => by
    simp only [List.map_cons, kdel1]
    split
    · rfl
    · simp [kdel1_map x f l]
theorem kdel1_mem {β : Type} {x : α} {p : α × β} : ∀ {l : List (α × β)}, p ∈ l → p.1 ≠ x → p ∈ kdel1 x l
  | q :: l, h, hn => by
    simp only [kdel1]
    rcases List.mem_cons.1 h with rfl | h
    · rw [if_neg (Ne.symm hn)]; simp
    · split
      · exact h
      · exact List.mem_cons_of_mem _ (kdel1_mem h hn)
theorem kdel1_len {β : Type} {x : α} : ∀ {l : List (α × β)}, x ∈ l.map (·.1) → (kdel1 x l).length + 1 = l.length
  | q :: l, h => by
    simp only [kdel1]
    split
    · simp
    · rename_i hne
      rw [List.map_cons, List.mem_cons] at h
      have := kdel1_len (l := l) (h.resolve_left hne)
      simp only [List.length_cons]
      omega
theorem kdel1_nodup {β : Type} {x : α} {l : List (α × β)} (h : (l.map (·.1)).Nodup) : ((kdel1 x l).map (·.1)).Nodup := h.sublist ((kdel1_sub x l).map _)
theorem delE_eq (x : α) (es : List (α × Value × Nat)) : delE x es = kdel1 x es := by
  have key : ∀ (es : List (α × Value × Nat)) (i : Nat), (match lookE x es i with | some (j, _) => es.eraseIdx (j - i) | none => es) = kdel1 x es := by
    intro es
    induction es with
    | nil => intro i; rfl
    | cons p es ih =>
      intro i
      simp only [lookE, kdel1]
      by_cases h : x = p.1
      · simp [h]
      · simp only [h, if_false]
        have := ih (i + 1)
        cases hl : lookE x es (i + 1) with
        | none => rw [hl] at this; simp only at this ⊢; rw [← this]
        | some q =>
          rw [hl] at this
          obtain ⟨j, v⟩ := q
          have hj := (lookE_mem hl).1
          simp only at this ⊢
          rw [← this, show j - i = (j - (i + 1)) + 1 by omega, List.eraseIdx_cons_succ]
  exact key es 0
theorem MapAt.del1 {enc : α → Value} {k' : PH} {r cl : Nat} {x : α} {es : List (α × Value × Nat)} (hk : k' r = some (.map ((delE x es).map (toE enc)).toArray cl)) (hn : (es.map (·.2.2)).Nodup) (hlt : ∀ p ∈ es, p.2.2 < cl) :
    MapAt enc k' r (kdel1 x (es.map fun p => (p.1, p.2.1))) := by
  refine ⟨delE x es, cl, hk, ?_, ?_, fun p hp => ?_⟩
  · rw [delE_eq, kdel1_map x (fun q : Value × Nat => q.1)]
  · rw [delE_eq]; exact hn.sublist ((kdel1_sub x es).map _)
  · rw [delE_eq] at hp; exact hlt p ((kdel1_sub x es).subset hp)
end
end Go.Wm

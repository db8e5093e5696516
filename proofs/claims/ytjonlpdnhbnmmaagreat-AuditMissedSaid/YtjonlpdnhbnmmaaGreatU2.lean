/-
  Whether what was told stands in order, the program's. Conditions: that what is handed in reads as data.
-/
import Derived.Test.YtjonlpdnhbnmmaaGreatU0
import Derived.Test.YtjonlpdnhbnmmaaGreatCoB
set_option linter.all false
namespace Go.Wm
open Go.RowKit Go.Proofs
attribute [local irreducible] RG CG EG WA Loc Det Alc CT Exit.then Exit.inBlock Code.wp bodyPost
abbrev eP : Place → Value := fun x => Value.agg x.vs.toArray
abbrev eT : Tp → Value := fun x => Value.agg x.vs.toArray
/-- The set of the places told. -/
def SeenOk (l : List Told) (kv : List (Place × Value)) : Prop := ∀ p : Place, kget p kv = if atP l p.tp p.off then some (.bool true) else none
/-- The farthest of each partition. -/
def FarOk (l : List Told) (kv : List (Tp × Value)) : Prop := ∀ tp : Tp, (kget tp kv = none ∧ ∀ s ∈ l, s.tp ≠ tp) ∨ ∃ m, kget tp kv = some (.int .i64 m) ∧ (∃ s ∈ l, s.tp = tp ∧ s.off = m) ∧ ∀ s ∈ l, s.tp = tp → s.off ≤ m
theorem atP_snoc (l : List Told) (t : Told) (tp : Tp) (off : Int) : atP (l ++ [t]) tp off = (atP l tp off || (decide (t.tp = tp) && decide (t.off = off))) := by
  simp [atP, List.any_append]
theorem seen_nil : SeenOk [] [] := fun p => rfl
theorem far_nil : FarOk [] [] := fun tp => .inl ⟨rfl, by simp⟩
theorem seen_put {l : List Told} {kv : List (Place × Value)} (h : SeenOk l kv) (t : Told) : SeenOk (l ++ [t]) (kput (ofP t) (.bool true) kv) := fun p => by
  rw [kget_put, atP_snoc, h p]
  by_cases he : p = ofP t
  · subst he; simp [ofP]
  · have : ¬ (t.tp = p.tp ∧ t.off = p.off) := fun ⟨h1, h2⟩ => he (by cases p; simp only [ofP, Place.mk.injEq]; exact ⟨h1.symm, h2.symm⟩)
    simp [he, this]
theorem seen_stay {l : List Told} {kv : List (Place × Value)} (h : SeenOk l kv) {t : Told} (ha : atP l t.tp t.off = true) : SeenOk (l ++ [t]) kv := fun p => by
  rw [h p, atP_snoc]
  by_cases he : t.tp = p.tp ∧ t.off = p.off
  · rw [← he.1, ← he.2, ha]; rfl
  · simp [he]
theorem far_put {l : List Told} {kv : List (Tp × Value)} (h : FarOk l kv) (t : Told) (hm : ∀ s ∈ l, s.tp = t.tp → s.off ≤ t.off) : FarOk (l ++ [t]) (kput t.tp (.int .i64 t.off) kv) := fun tp => by
  rw [kget_put]
  by_cases he : tp = t.tp
  · subst he
    refine .inr ⟨t.off, by simp, ⟨t, by simp, rfl, rfl⟩, fun s hs hst => ?_⟩
    rcases List.mem_append.1 hs with hs | hs
    · exact hm s hs hst
    · simp at hs; subst hs; exact Int.le_refl _
  · rw [if_neg he]
    rcases h tp with ⟨h1, h2⟩ | ⟨m, h1, ⟨s, h2, h3⟩, h4⟩
    · exact .inl ⟨h1, fun s hs => by
        rcases List.mem_append.1 hs with hs | hs
        · exact h2 s hs
        · simp at hs; subst hs; exact Ne.symm he⟩
    · exact .inr ⟨m, h1, ⟨s, by simp [h2], h3⟩, fun s hs hst => by
        rcases List.mem_append.1 hs with hs | hs
        · exact h4 s hs hst
        · simp at hs; subst hs; exact absurd hst.symm he⟩
theorem far_stay {l : List Told} {kv : List (Tp × Value)} (h : FarOk l kv) {t : Told} (ha : atP l t.tp t.off = true) : FarOk (l ++ [t]) kv := fun tp => by
  rw [atP, List.any_eq_true] at ha
  obtain ⟨u, hu, he⟩ := ha
  simp at he
  rcases h tp with ⟨h1, h2⟩ | ⟨m, h1, ⟨s, h2, h3⟩, h4⟩
  · exact .inl ⟨h1, fun s hs => by
      rcases List.mem_append.1 hs with hs | hs
      · exact h2 s hs
      · simp at hs; subst hs; rw [← he.1]; exact h2 u hu⟩
  · exact .inr ⟨m, h1, ⟨s, by simp [h2], h3⟩, fun s hs hst => by
      rcases List.mem_append.1 hs with hs | hs
      · exact h4 s hs hst
      · simp at hs; subst hs; rw [← he.2]; exact h4 u hu (by rw [he.1]; exact hst)⟩
set_option maxHeartbeats 1000000 in
theorem audOrder_ct {k : PH} {a : Option Addr} {c : Nat} {l : List Told} (hl : Sl tTold k a c l) :
    CT Tryz.prog 27 #[.slice a l.length c] k (fun _ v => v = errOf (decide (Scan ordOk l)) 71) := by
  refine ct_of_body (l := [_]) Tryz.func27 rfl Tryz.ntmps27 (by simp) (fun _ _ _ _ h => h) fun F hF0 hFm => ?_
  have b1 := hl.cap; have b2 := hl.max; unfold maxLen at b2
  repeat (first | refine cg_seq ?_ | refine cg_region ?_ | refine rg_nil ?_ | refine eg_then ?_ | refine qsp ?_)
  refine rb rfl rfl rfl rfl (a_makeMap rfl) ?_; intro r1 k1 hr1 hN1 hle1 hk1
  refine rb rfl rfl rfl rfl (a_makeMap rfl) ?_; intro r2 k2 hr2 hN2 hle2 hk2
  have hne : r2 ≠ r1 := by rintro rfl; rw [hk1] at hr2; cases hr2
  repeat (first | refine cg_seq ?_ | refine cg_region ?_ | refine rg_nil ?_ | refine eg_then ?_ | refine qsp ?_ | refine qsn ?_ | refine cg_block ?_)
  refine cg_loop (fun (i : Nat) e k' => Le k k' ∧ (∃ kv, MapAt eP k' r1 kv ∧ SeenOk (l.take i) kv) ∧ (∃ kv, MapAt eT k' r2 kv ∧ FarOk (l.take i) kv) ∧ i ≤ l.length ∧ (∀ j, (h : j < l.length) → j < i → ordOk (l.take j) l[j] = true) ∧ e = [(3, .is (.map (some r1))), (4, .is (.map (some r2))), (11, .is (.slice a l.length c)), (12, .is (.int .i64 (l.length : Int))), (13, .is (.int .i64 (i : Int)))])
    (fun i => l.length - i) 0 ⟨hle1.trans hle2, ⟨[], (MapAt.new eP hk1).le hle2, seen_nil⟩, ⟨[], MapAt.new eT hk2, far_nil⟩, Nat.zero_le _, fun j _ hj => by omega, rfl⟩ ⟨rfl, rfl, rfl, rfl, rfl, trivial⟩ ?_
  rintro i e k3 ⟨hle, ⟨kv1, hm1, hs1⟩, ⟨kv2, hm2, hs2⟩, hi, hno, rfl⟩
  repeat (first | refine cg_seq ?_ | refine cg_region ?_ | refine rg_nil ?_ | refine eg_then ?_ | refine qsp ?_)
  refine cg_cond rfl (fun h => ?_) (fun h => ?_)
  · have hlt : i < l.length := by simpa using h
    obtain ⟨bx, ox, cx, rfl, ⟨rfl, hok⟩, hcx⟩ := (hl.le hle).el i l[i] (List.getElem?_eq_getElem hlt)
    obtain ⟨t, ht⟩ : ∃ t, l[i] = t := ⟨_, rfl⟩
    rw [ht] at hcx
    have htk : l.take (i + 1) = l.take i ++ [t] := by rw [List.take_succ_eq_append_getElem hlt, ht]
    have bad : ordOk (l.take i) t = false → errOf (decide (Scan ordOk l)) 71 = .int .i64 71 := fun hb => by
      have : ¬ Scan ordOk l := fun hs => by have := hs i hlt; rw [ht, hb] at this; cases this
      simp [errOf, this]
    have good : ordOk (l.take i) t = true → ∀ j, (h : j < l.length) → j < i + 1 → ordOk (l.take j) l[j] = true := fun hg j hj hji => by
      by_cases e : j = i
      · subst e; rw [ht]; exact hg
      · exact hno j hj (by omega)
    have hdef : ordOk (l.take i) t = !(!atP (l.take i) t.tp t.off && aboveP (l.take i) t.tp t.off) := rfl
    repeat (first | refine cg_seq ?_ | refine cg_region ?_ | refine eg_then ?_ | refine qsi ?_ | refine qsg ?_ | refine cg_skip ?_ | refine cg_block ?_)
    refine rb rfl rfl rfl rfl (a_alloc rfl) ?_; intro b5 k5 hb5 hN5 hle5 hk5
    skip
    refine rw1 rfl rfl rfl rfl rfl rfl rfl hk5 rfl (.inl hN5) ?_ ?_; (simp [Tp.vs, Mark.vs, OpenT.vs, Gone.vs, Tx.cs, View.cs, Rec.vs, Batch.cs, Who.vs, Pl.vs, Told.vs, Fact.vs, Place.vs, Value.oneCell']); intro k6 ht6 hk6
    have c6 := cells_at (vs := t.vs) hk6 rfl
    have hle6 : Le k3 k6 := ht6 k3 hle5 hb5
    obtain ⟨p0, p1, p2, p3⟩ := Told.parts c6
    have hm1 := hm1.le hle6
    have hm2 := hm2.le hle6
    repeat (first | refine cg_seq ?_ | refine cg_region ?_ | refine rg_nil ?_ | refine eg_then ?_ | refine qsp ?_ | refine qsg ?_ | refine qsf ?_)
    refine rs rfl rfl (loc_det rfl (d_look_ok (enc := eT) (x := t.tp) hm2 rfl rfl rfl)) ?_
    have hs2t := hs2 t.tp
    have hs1t := hs1 (ofP t)
    have c6 := c6
    repeat (first | refine cg_seq ?_ | refine cg_region ?_ | refine rg_nil ?_ | refine eg_then ?_ | refine qsp ?_ | refine qsg ?_)
    refine rs rfl rfl (loc_call_is rfl rfl rfl rfl (audOf_ct t)) ?_
    refine rs rfl rfl (loc_det rfl (d_look (enc := eP) (x := ofP t) hm1 rfl rfl rfl)) ?_
    cases hat : atP (l.take i) t.tp t.off
    rotate_left
    · rw [show kget (ofP t) kv1 = some (.bool true) by rw [hs1t]; simp [ofP, hat]]
      repeat (first | refine cg_region ?_ | refine rg_nil ?_ | refine eg_then ?_ | refine qsp ?_ | refine qsa ?_ | refine cg_cond_true rfl ?_ | refine cg_exit ?_ | refine eg_then_exit ?_ | refine eg_in_exit ?_)
      refine eg_again (i + 1) _ ⟨hle.trans hle6, ⟨kv1, hm1, by rw [htk]; exact seen_stay hs1 hat⟩, ⟨kv2, hm2, by rw [htk]; exact far_stay hs2 hat⟩, hlt, good (by rw [hdef, hat]; rfl), rfl⟩ (by omega) ⟨rfl, rfl, rfl, rfl, rfl, trivial⟩
    rw [show kget (ofP t) kv1 = none by rw [hs1t]; simp [ofP, hat]]
    repeat (first | refine cg_seq ?_ | refine cg_region ?_ | refine rg_nil ?_ | refine eg_then ?_ | refine qsp ?_ | refine cg_cond_false rfl ?_ | refine cg_skip ?_)
    have fin : (∀ s ∈ l.take i, s.tp = t.tp → s.off ≤ t.off) → aboveP (l.take i) t.tp t.off = false := fun hm => by
      rw [aboveP, List.any_eq_false]
      intro s hs
      simp only [Bool.and_eq_true, decide_eq_true_eq, not_and]
      intro h1
      have := hm s hs h1
      omega
    apply meet (P := Tryz.prog) (F := F) (n := 46) (k := k6) [(3, .is (.map (some r1))), (4, .is (.map (some r2))), (6, .is (.pointer (some ⟨b5, 0, none⟩))), (11, .is (.slice (some ⟨bx, ox, none⟩) l.length c)), (12, .is (.int .i64 (l.length : Int))), (13, .is (.int .i64 (i : Int)))] (∀ s ∈ l.take i, s.tp = t.tp → s.off ≤ t.off)
    · intro go
      rcases hs2t with ⟨h1, h2⟩ | ⟨m, h1, ⟨s, h2, h3, h4⟩, h5⟩
      · rw [h1]
        repeat (first | refine rg_nil ?_ | refine eg_then ?_ | refine qsp ?_ | refine qso ?_ | refine cg_cond_false rfl ?_ | refine cg_skip ?_)
        exact go _ (fun s hs he => absurd he (h2 s hs)) ⟨rfl, rfl, rfl, rfl, rfl, rfl, trivial⟩
      · rw [h1]
        repeat (first | refine rg_nil ?_ | refine eg_then ?_ | refine qsp ?_ | refine qsl ?_ | refine qsf ?_)
        cases q : decide (m > t.off)
        · repeat (first | refine eg_then ?_ | refine cg_cond_false rfl ?_ | refine cg_skip ?_)
          refine go _ (fun s hs he => ?_) ⟨rfl, rfl, rfl, rfl, rfl, rfl, trivial⟩
          have := h5 s hs he
          simp at q
          omega
        · repeat (first | refine cg_seq ?_ | refine cg_region ?_ | refine rg_nil ?_ | refine eg_then ?_ | refine qsp ?_ | refine cg_cond_true rfl ?_ | refine cg_ret ?_ | refine eg_then_ret ?_ | refine eg_in_ret ?_)
          refine eg_return rfl rfl ?_
          refine (bad ?_).symm
          rw [hdef, hat]
          have : aboveP (l.take i) t.tp t.off = true := by
            rw [aboveP, List.any_eq_true]
            simp at q
            exact ⟨s, h2, by simp [h3, h4, q]⟩
          rw [this]; rfl
    · intro hmax
      have n1 : b5 ≠ r1 := by rintro rfl; obtain ⟨_, _, g, _⟩ := hm1; rw [hk6] at g; cases g
      have n2 : b5 ≠ r2 := by rintro rfl; obtain ⟨_, _, g, _⟩ := hm2; rw [hk6] at g; cases g
      obtain ⟨es, cl, g1, rfl, g3, g4⟩ := hm1
      obtain ⟨u1, u2, u3⟩ := ent_put (ofP t) (.bool false) (.bool true) es cl g3 g4
      obtain ⟨v1, v2, v3⟩ := upd_kput (ofP t) (.bool true) es cl g3 g4
      rw [← u1] at v1 v2 v3
      rw [← u2] at v3
      generalize hE : entE (ofP t) (.bool false) es cl = E at u3 v1 v2 v3
      refine cg_chain 11 [8, 10] (fun s => [(r1, match s with | 0 => .map (es.map (toE eP)).toArray cl | 1 => .map ((E.1).map (toE eP)).toArray E.2.1 | _ => .map ((putE E.2.2 (.bool true) E.1).map (toE eP)).toArray E.2.1)]) [r1] (fun s => rfl) (by kernel_rfl) (by kernel_rfl) rfl (by kernel_rfl) rfl (by simpa using g1) (by simpa using hN1) ?_
      have d6 := c6.delL (rs := [r1]) (by simpa using n1)
      have d0 := p0.delL (rs := [r1]) (by simpa using n1)
      have d1 := p1.delL (rs := [r1]) (by simpa using n1)
      have d6 := d6
      dsimp only [List.take]
      repeat (first | refine qcp ?_ | refine qcg ?_)
      refine wc_s rfl (loc_call_is rfl rfl rfl rfl (audOf_ct t)) rfl ?_
      have d0 := d0
      repeat (first | refine qcp ?_ | refine qcl ?_ | refine qcg ?_ | refine qcf ?_)
      refine wc_e 0 rfl (effs_entry (enc := eP) (x := ofP t) (z := .bool false) (j := 0) rfl rfl rfl rfl rfl (by rw [hE]; rfl) (by intro i p hp hi; match i with | 0 => exact absurd rfl hi | i + 1 => simp at hp) hN1) ?_
      rw [hE]
      repeat (first | refine qcp ?_)
      refine wc_e 1 rfl (effs_store (enc := eP) (j := 0) rfl rfl rfl rfl rfl u3 rfl rfl (by intro i p hp hi; match i with | 0 => exact absurd rfl hi | i + 1 => simp at hp) hN1) ?_
      refine wc_nil ?_
      intro k7 vs hle7 hvs
      have hle8 : Le k6 k6 := Le.refl _
      dsimp only [List.drop, nameE, nameP, List.length, setL]
      have h6r : ∀ b o, k6 b = some o → b ≠ r1 → k7 b = some o := fun b o hb hn => hle7 b o (by rw [delL_of (by simpa using hn)]; exact hb)
      have m2 : MapAt eT (upd k7 r1 (.map ((putE E.2.2 (.bool true) E.1).map (toE eP)).toArray E.2.1)) r2 kv2 := by
        obtain ⟨es2, cl2, w1, w2⟩ := hm2
        exact ⟨es2, cl2, by rw [upd_other hne]; exact h6r _ _ w1 hne, w2⟩
      have m1 : MapAt eP (upd k7 r1 (.map ((putE E.2.2 (.bool true) E.1).map (toE eP)).toArray E.2.1)) r1 _ := ⟨_, _, upd_same _ _ _, v1, v2, v3⟩
      have hk8 : Le k (upd k7 r1 (.map ((putE E.2.2 (.bool true) E.1).map (toE eP)).toArray E.2.1)) := fun b o hb => by
        have hb1 : b ≠ r1 := by rintro rfl; rw [hr1] at hb; cases hb
        rw [upd_other hb1]
        exact h6r _ _ (hle6 _ _ (hle _ _ hb)) hb1
      generalize upd k7 r1 (.map ((putE E.2.2 (.bool true) E.1).map (toE eP)).toArray E.2.1) = k8 at m1 m2 hk8 ⊢
      refine r_put (enc := eT) (x := t.tp) m2 hN2 rfl rfl rfl rfl rfl rfl rfl ?_
      intro k9 ht9 m2'
      have m1' := m1.turn1 ht9 hne.symm
      have hk9 : Le k k9 := ht9 k hk8 (by
        cases e : k r2 with
        | none => rfl
        | some o => rw [hle1 _ _ e] at hr2; cases hr2)
      repeat (first | refine cg_region ?_ | refine rg_nil ?_ | refine eg_then ?_ | refine qsp ?_ | refine qsa ?_ | refine eg_in_normal ?_)
      exact eg_again (i + 1) _ ⟨hk9, ⟨_, m1', by rw [htk]; exact seen_put hs1 t⟩, ⟨_, m2', by rw [htk]; exact far_put hs2 t hmax⟩, hlt, good (by rw [hdef, fin hmax]; simp), rfl⟩ (by omega) ⟨rfl, rfl, rfl, rfl, rfl, trivial⟩
  · repeat (first | refine cg_seq ?_ | refine cg_region ?_ | refine rg_nil ?_ | refine eg_then ?_ | refine qsp ?_ | refine cg_ret ?_ | refine cg_exit ?_ | refine eg_then_exit ?_ | refine eg_in_exit ?_)
    refine eg_return rfl rfl ?_
    have hin : i = l.length := by simp at h; omega
    have : Scan ordOk l := fun j hj => hno j hj (by omega)
    simp [errOf, this]
end Go.Wm

/-
  Whether all was told once, the program's. Conditions: that what is handed in reads as data.
-/
import Derived.Test.YtjonlpdnhbnmmaaGreatU2
set_option linter.all false
namespace Go.Wm
open Go.RowKit Go.Proofs
attribute [local irreducible] RG CG EG WA Loc Det Alc CT Exit.then Exit.inBlock Code.wp bodyPost
/-- Is one beyond its partition's mark? -/
def pastP (ms : List Mark) (t : Told) : Bool := match markP ms t.tp with | none => false | some m => decide (m ≤ t.off)
def MarksOk (ms : List Mark) (kv : List (Tp × Value)) : Prop := ∀ tp, kget tp kv = (markP ms tp).map fun m => .int .i64 m
def Seen2 (ms : List Mark) (l : List Told) (kv : List (Place × Value)) : Prop := ∀ p, kget p kv = if l.any (fun s => decide (ofP s = p) && pastP ms s) then some (.bool true) else none
def Beyond (ms : List Mark) (l : List Told) (kv : List (Tp × Value)) : Prop := ∀ tp, kget tp kv = if l.any (fun s => decide (s.tp = tp) && pastP ms s) then some (.bool true) else none
theorem marks_nil : MarksOk [] [] := fun tp => rfl
theorem marks_put {ms : List Mark} {kv : List (Tp × Value)} (h : MarksOk ms kv) (m : Mark) : MarksOk (m :: ms) (kput m.tp (.int .i64 m.off) kv) := fun tp => by
  rw [kget_put, h tp]
  unfold markP
  by_cases he : tp = m.tp
  · subst he; simp
  · have : ¬ m.tp = tp := fun h => he h.symm
    simp [he, this]
theorem seen2_nil (ms : List Mark) : Seen2 ms [] [] := fun p => rfl
theorem beyond_nil (ms : List Mark) : Beyond ms [] [] := fun p => rfl
theorem seen2_put {ms : List Mark} {l : List Told} {kv : List (Place × Value)} (h : Seen2 ms l kv) {t : Told} (hp : pastP ms t = true) : Seen2 ms (l ++ [t]) (kput (ofP t) (.bool true) kv) := fun p => by
  rw [kget_put, h p, List.any_append]
  by_cases he : p = ofP t
  · subst he; simp [hp]
  · have : ¬ ofP t = p := fun h => he h.symm
    simp [he, this]
theorem seen2_stay {ms : List Mark} {l : List Told} {kv : List (Place × Value)} (h : Seen2 ms l kv) {t : Told} (hp : pastP ms t = false) : Seen2 ms (l ++ [t]) kv := fun p => by
  rw [h p, List.any_append]; simp [hp]
theorem beyond_put {ms : List Mark} {l : List Told} {kv : List (Tp × Value)} (h : Beyond ms l kv) {t : Told} (hp : pastP ms t = true) : Beyond ms (l ++ [t]) (kput t.tp (.bool true) kv) := fun p => by
  rw [kget_put, h p, List.any_append]
  by_cases he : p = t.tp
  · subst he; simp [hp]
  · have : ¬ t.tp = p := fun h => he h.symm
    simp [he, this]
theorem beyond_stay {ms : List Mark} {l : List Told} {kv : List (Tp × Value)} (h : Beyond ms l kv) {t : Told} (hp : pastP ms t = false) : Beyond ms (l ++ [t]) kv := fun p => by
  rw [h p, List.any_append]; simp [hp]
/-- What the program looks at is what the document says. -/
theorem once_is {ms : List Mark} {l : List Told} {t : Told} {m : Int} (hm : markP ms t.tp = some m) :
    onceOk ms l t = (!((decide (t.off < m) && l.any fun s => decide (s.tp = t.tp) && pastP ms s) || (decide (m ≤ t.off) && l.any fun s => decide (ofP s = ofP t) && pastP ms s))) := by
  rw [onceOk_some hm, Bool.eq_iff_iff]
  have e1 : (l.any fun s => (decide (s.tp = t.tp) && decide (m ≤ s.off)) && decide (t.off < m)) = (decide (t.off < m) && l.any fun s => decide (s.tp = t.tp) && pastP ms s) := by
    rw [Bool.eq_iff_iff]
    simp only [List.any_eq_true, Bool.and_eq_true, decide_eq_true_eq]
    constructor
    · rintro ⟨s, h1, ⟨h2, h3⟩, h4⟩
      exact ⟨h4, s, h1, h2, by simp [pastP, h2, hm, h3]⟩
    · rintro ⟨h4, s, h1, h2, h3⟩
      rw [pastP, h2, hm] at h3
      exact ⟨s, h1, ⟨h2, by simpa using h3⟩, h4⟩
  have e2 : (decide (m ≤ t.off) && atP l t.tp t.off) = (decide (m ≤ t.off) && l.any fun s => decide (ofP s = ofP t) && pastP ms s) := by
    rw [Bool.eq_iff_iff]
    simp only [atP, List.any_eq_true, Bool.and_eq_true, decide_eq_true_eq]
    constructor
    · rintro ⟨h4, s, h1, h2, h3⟩
      exact ⟨h4, s, h1, by simp [ofP, h2, h3], by simp [pastP, h2, hm, h3, h4]⟩
    · rintro ⟨h4, s, h1, h2, h3⟩
      simp only [ofP, Place.mk.injEq] at h2
      exact ⟨h4, s, h1, h2.1, h2.2⟩
  rw [e1, e2]
  cases (decide (t.off < m) && l.any fun s => decide (s.tp = t.tp) && pastP ms s) <;> cases (decide (m ≤ t.off) && l.any fun s => decide (ofP s = ofP t) && pastP ms s) <;> simp
set_option maxHeartbeats 2000000 in
theorem audOnce_ct {k : PH} {a a2 : Option Addr} {c c2 : Nat} {l : List Told} {ms : List Mark} (hl : Sl tTold k a c l) (hm : Sl tMark k a2 c2 ms) :
    CT Tryz.prog 28 #[.slice a l.length c, .slice a2 ms.length c2] k (fun _ v => v = errOf (decide (Scan (onceOk ms) l)) 320) := by
  refine ct_of_body (l := [_, _]) Tryz.func28 rfl Tryz.ntmps28 (by simp) (fun _ _ _ _ h => h) fun F hF0 hFm => ?_
  have b1 := hl.cap; have b2 := hl.max; unfold maxLen at b2
  have b3 := hm.cap; have b4 := hm.max; unfold maxLen at b4
  repeat (first | refine cg_seq ?_ | refine cg_region ?_ | refine rg_nil ?_ | refine eg_then ?_ | refine qsp ?_)
  refine rb rfl rfl rfl rfl (a_makeMap rfl) ?_; intro r1 k1 hr1 hN1 hle1 hk1
  repeat (first | refine cg_seq ?_ | refine cg_region ?_ | refine rg_nil ?_ | refine eg_then ?_ | refine qsp ?_ | refine qsn ?_ | refine qss ?_ | refine cg_block ?_)
  refine cg_loop (fun (i : Nat) e k' => Le k k' ∧ (∃ kv, MapAt eT k' r1 kv ∧ MarksOk (ms.drop i) kv) ∧ i ≤ ms.length ∧ e = [(0, .is (.slice a l.length c)), (1, .is (.slice a2 ms.length c2)), (5, .is (.map (some r1))), (6, .is (.int .i64 ((i : Int) - 1)))])
    (fun i => i) ms.length ⟨hle1, ⟨[], MapAt.new eT hk1, by rw [List.drop_length]; exact marks_nil⟩, Nat.le_refl _, rfl⟩ ⟨rfl, rfl, rfl, rfl, trivial⟩ ?_
  rintro i e k2 ⟨hle, ⟨kv1, hm1, hs1⟩, hi, rfl⟩
  repeat (first | refine cg_seq ?_ | refine cg_region ?_ | refine rg_nil ?_ | refine eg_then ?_ | refine qsp ?_)
  refine cg_cond rfl (fun h => ?_) (fun h => ?_)
  · have hpos : 1 ≤ i := by simp at h; omega
    obtain ⟨j, rfl⟩ : ∃ j, i = j + 1 := ⟨i - 1, by omega⟩
    rw [show ((j + 1 : Nat) : Int) - 1 = (j : Int) by omega]
    have hlt : j < ms.length := by omega
    obtain ⟨bx, ox, cx, rfl, ⟨rfl, hok⟩, hcx⟩ := (hm.le hle).el j ms[j] (List.getElem?_eq_getElem hlt)
    obtain ⟨p0, p1⟩ := Mark.parts hcx
    repeat (first | refine cg_seq ?_ | refine eg_then ?_ | refine cg_skip ?_ | refine cg_block ?_)
    refine cg_fresh 11 [] (by kernel_rfl) (by kernel_rfl) rfl rfl rfl ?_
    dsimp only [List.take]
    have p0 := p0
    repeat (first | refine qfp ?_ | refine qfi ?_ | refine qfl ?_ | refine qfg ?_ | refine qff ?_)
    refine fs_nil ?_
    intro k3 vs hle3 _ _ _
    dsimp only [List.drop, nameE, nameP]
    refine r_put (enc := eT) (x := ms[j].tp) (hm1.le hle3) hN1 rfl rfl rfl rfl rfl rfl rfl ?_
    intro k4 ht4 hm4
    repeat (first | refine cg_region ?_ | refine rg_nil ?_ | refine eg_then ?_ | refine qsp ?_ | refine qss ?_ | refine eg_in_normal ?_)
    refine eg_again j _ ⟨ht4 k (hle.trans hle3) hr1, ⟨_, hm4, by rw [List.drop_eq_getElem_cons hlt]; exact marks_put hs1 _⟩, by omega, rfl⟩ (by omega) ⟨rfl, rfl, rfl, rfl, trivial⟩
  · have hi0 : i = 0 := by simp at h; omega
    subst hi0
    rw [List.drop_zero] at hs1
    repeat (first | refine cg_seq ?_ | refine cg_region ?_ | refine eg_then ?_ | refine cg_exit ?_ | refine eg_then_exit ?_ | refine eg_in_exit ?_)
    refine rb rfl rfl rfl rfl (a_makeMap rfl) ?_; intro r2 k3 hr2 hN2 hle3 hk3
    refine rb rfl rfl rfl rfl (a_makeMap rfl) ?_; intro r3 k4 hr3 hN3 hle4 hk4
    have hm1' := hm1
    have hm1 := hm1.le (hle3.trans hle4)
    have n12 : r2 ≠ r1 := by obtain ⟨_, _, g, _⟩ := hm1'; exact some_ne g hr2
    have n13 : r3 ≠ r1 := MapAt.ne (hm1'.le hle3) hr3
    have n23 : r3 ≠ r2 := some_ne hk3 hr3
    repeat (first | refine cg_seq ?_ | refine cg_region ?_ | refine rg_nil ?_ | refine eg_then ?_ | refine qsp ?_ | refine qsn ?_ | refine cg_block ?_)
    refine cg_loop (fun (i : Nat) e k' => Le k k' ∧ MapAt eT k' r1 kv1 ∧ (∃ kv, MapAt eP k' r2 kv ∧ Seen2 ms (l.take i) kv) ∧ (∃ kv, MapAt eT k' r3 kv ∧ Beyond ms (l.take i) kv) ∧ i ≤ l.length ∧ (∀ j, (h : j < l.length) → j < i → onceOk ms (l.take j) l[j] = true) ∧ e = [(5, .is (.map (some r1))), (7, .is (.map (some r2))), (8, .is (.map (some r3))), (34, .is (.slice a l.length c)), (35, .is (.int .i64 (l.length : Int))), (36, .is (.int .i64 (i : Int)))])
      (fun i => l.length - i) 0 ⟨hle.trans (hle3.trans hle4), hm1, ⟨[], (MapAt.new eP hk3).le hle4, seen2_nil _⟩, ⟨[], MapAt.new eT hk4, beyond_nil _⟩, Nat.zero_le _, fun j _ hj => by omega, rfl⟩ ⟨rfl, rfl, rfl, rfl, rfl, rfl, trivial⟩ ?_
    rintro i e k5 ⟨hle5, hm5, ⟨kv2, hm52, hs2⟩, ⟨kv3, hm53, hs3⟩, hi, hno, rfl⟩
    repeat (first | refine cg_seq ?_ | refine cg_region ?_ | refine rg_nil ?_ | refine eg_then ?_ | refine qsp ?_)
    refine cg_cond rfl (fun h => ?_) (fun h => ?_)
    · have hlt : i < l.length := by simpa using h
      obtain ⟨bx, ox, cx, rfl, ⟨rfl, hok⟩, hcx⟩ := (hl.le hle5).el i l[i] (List.getElem?_eq_getElem hlt)
      obtain ⟨t, ht⟩ : ∃ t, l[i] = t := ⟨_, rfl⟩
      rw [ht] at hcx
      have htk : l.take (i + 1) = l.take i ++ [t] := by rw [List.take_succ_eq_append_getElem hlt, ht]
      have bad : onceOk ms (l.take i) t = false → errOf (decide (Scan (onceOk ms) l)) 320 = .int .i64 320 := fun hb => by
        have : ¬ Scan (onceOk ms) l := fun hs => by have := hs i hlt; rw [ht, hb] at this; cases this
        simp [errOf, this]
      have good : onceOk ms (l.take i) t = true → ∀ j, (h : j < l.length) → j < i + 1 → onceOk ms (l.take j) l[j] = true := fun hg j hj hji => by
        by_cases e : j = i
        · subst e; rw [ht]; exact hg
        · exact hno j hj (by omega)
      repeat (first | refine cg_seq ?_ | refine cg_region ?_ | refine eg_then ?_ | refine qsi ?_ | refine qsg ?_ | refine cg_skip ?_ | refine cg_block ?_)
      refine rb rfl rfl rfl rfl (a_alloc rfl) ?_; intro b6 k6 hb6 hN6 hle6 hk6
      skip
      refine rw1 rfl rfl rfl rfl rfl rfl rfl hk6 rfl (.inl hN6) ?_ ?_; (simp [Tp.vs, Mark.vs, OpenT.vs, Gone.vs, Tx.cs, View.cs, Rec.vs, Batch.cs, Who.vs, Pl.vs, Told.vs, Fact.vs, Place.vs, Value.oneCell']); intro k7 ht7 hk7
      have c7 := cells_at (vs := t.vs) hk7 rfl
      have hle7 : Le k5 k7 := ht7 k5 hle6 hb6
      have n61 := hm5.ne hb6
      have n62 := hm52.ne hb6
      have n63 := hm53.ne hb6
      obtain ⟨p0, p1, p2, p3⟩ := Told.parts c7
      have hm5 := hm5.le hle7
      have hm52 := hm52.le hle7
      have hm53 := hm53.le hle7
      repeat (first | refine cg_seq ?_ | refine cg_region ?_ | refine rg_nil ?_ | refine eg_then ?_ | refine qsp ?_ | refine qsg ?_ | refine qsf ?_)
      refine rs rfl rfl (loc_det rfl (d_look_ok (enc := eT) (x := t.tp) hm5 rfl rfl rfl)) ?_
      rw [hs1 t.tp]
      cases hmk : markP ms t.tp with
      | none =>
        have hp : pastP ms t = false := by simp [pastP, hmk]
        simp only [Option.map_none]
        repeat (first | refine cg_seq ?_ | refine cg_region ?_ | refine rg_nil ?_ | refine eg_then ?_ | refine qsp ?_ | refine qsa ?_ | refine cg_cond_true rfl ?_ | refine cg_skip ?_ | refine cg_block ?_ | refine eg_in_normal ?_)
        exact eg_again (i + 1) _ ⟨hle5.trans hle7, hm5, ⟨kv2, hm52, by rw [htk]; exact seen2_stay hs2 hp⟩, ⟨kv3, hm53, by rw [htk]; exact beyond_stay hs3 hp⟩, hlt, good (onceOk_none hmk), rfl⟩ (by omega) ⟨rfl, rfl, rfl, rfl, rfl, rfl, trivial⟩
      | some m =>
        have hdef := once_is (l := l.take i) hmk
        have hpd : pastP ms t = decide (m ≤ t.off) := by simp [pastP, hmk]
        simp only [Option.map_some]
        have e3 := hs3 t.tp
        have e2 := hs2 (ofP t)
        repeat (first | refine cg_seq ?_ | refine cg_region ?_ | refine rg_nil ?_ | refine eg_then ?_ | refine qsp ?_ | refine qsl ?_ | refine qsf ?_ | refine cg_cond_false rfl ?_ | refine cg_block ?_)
        cases q1 : decide (t.off < m)
        · have q2 : decide (t.off ≥ m) = true := by simp at q1; simpa using q1
          have hp : pastP ms t = true := by rw [hpd]; simpa using q2
          have c7 := c7
          repeat (first | refine cg_region ?_ | refine rg_nil ?_ | refine eg_then ?_ | refine qsp ?_ | refine qsl ?_ | refine qsf ?_ | refine qso ?_ | refine cg_cond_false rfl ?_)
          rw [q2]
          have c7 := c7
          repeat (first | refine qsp ?_ | refine qsg ?_)
          refine rs rfl rfl (loc_call_is rfl rfl rfl rfl (audOf_ct t)) ?_
          refine rs rfl rfl (loc_det rfl (d_look (enc := eP) (x := ofP t) hm52 rfl rfl rfl)) ?_
          rw [e2]
          cases q3 : (l.take i).any (fun s => decide (ofP s = ofP t) && pastP ms s)
          · repeat (first | refine cg_seq ?_ | refine cg_region ?_ | refine rg_nil ?_ | refine eg_then ?_ | refine qsp ?_ | refine qsl ?_ | refine qsf ?_ | refine cg_cond_false rfl ?_)
            rw [q2]
            repeat (first | refine cg_cond_true rfl ?_)
            have hg : onceOk ms (l.take i) t = true := by rw [hdef, q3, q1]; simp
            obtain ⟨es, cl, g1, rfl, g3, g4⟩ := hm53
            obtain ⟨v1, v2, v3⟩ := upd_kput t.tp (.bool true) es cl g3 g4
            refine cg_chain 7 [6] (fun s => [(r3, match s with | 0 => .map (es.map (toE eT)).toArray cl | _ => .map (((updE t.tp (.bool true) es cl).1).map (toE eT)).toArray (updE t.tp (.bool true) es cl).2)]) [r3] (fun s => rfl) (by kernel_rfl) (by kernel_rfl) rfl (by kernel_rfl) rfl (by simpa using g1) (by simpa using hN3) ?_
            have d6 := c7.delL (rs := [r3]) (by simpa using n63)
            have d0 := p0.delL (rs := [r3]) (by simpa using n63)
            dsimp only [List.take]
            repeat (first | refine qcp ?_ | refine qcg ?_ | refine qcf ?_)
            have d6 := d6
            repeat (first | refine qcg ?_)
            refine wc_s rfl (loc_call_is rfl rfl rfl rfl (audOf_ct t)) rfl ?_
            skip
            refine wc_e 0 rfl (effs_update (enc := eT) (x := t.tp) (j := 0) rfl rfl rfl rfl rfl rfl rfl (by intro i p hp hi; match i with | 0 => exact absurd rfl hi | i + 1 => simp at hp) hN3) ?_
            refine wc_nil ?_
            intro k8 vs hle8 hvs
            dsimp only [List.drop, nameE, nameP, List.length, setL]
            have h8 : ∀ b o, k7 b = some o → b ≠ r3 → k8 b = some o := fun b o hb hn => hle8 b o (by rw [delL_of (by simpa using hn)]; exact hb)
            have m3 : MapAt eT (upd k8 r3 (.map (((updE t.tp (.bool true) es cl).1).map (toE eT)).toArray (updE t.tp (.bool true) es cl).2)) r3 _ := ⟨_, _, upd_same _ _ _, v1, v2, v3⟩
            have m1 : MapAt eT (upd k8 r3 (.map (((updE t.tp (.bool true) es cl).1).map (toE eT)).toArray (updE t.tp (.bool true) es cl).2)) r1 kv1 := by
              obtain ⟨es2, cl2, w1, w2⟩ := hm5
              exact ⟨es2, cl2, by rw [upd_other n13.symm]; exact h8 _ _ w1 n13.symm, w2⟩
            have m2 : MapAt eP (upd k8 r3 (.map (((updE t.tp (.bool true) es cl).1).map (toE eT)).toArray (updE t.tp (.bool true) es cl).2)) r2 kv2 := by
              obtain ⟨es2, cl2, w1, w2⟩ := hm52
              exact ⟨es2, cl2, by rw [upd_other n23.symm]; exact h8 _ _ w1 n23.symm, w2⟩
            have hk8 : Le k (upd k8 r3 (.map (((updE t.tp (.bool true) es cl).1).map (toE eT)).toArray (updE t.tp (.bool true) es cl).2)) := fun b o hb => by
              have hb1 : b ≠ r3 := by rintro rfl; rw [(hle.trans hle3).none hr3] at hb; cases hb
              rw [upd_other hb1]
              exact h8 _ _ (hle7 _ _ (hle5 _ _ hb)) hb1
            generalize upd k8 r3 (.map (((updE t.tp (.bool true) es cl).1).map (toE eT)).toArray (updE t.tp (.bool true) es cl).2) = k9 at m1 m2 m3 hk8 ⊢
            refine r_put (enc := eP) (x := ofP t) m2 hN2 rfl rfl rfl rfl rfl rfl rfl ?_
            intro k10 ht10 m2'
            have hk10 : Le k k10 := ht10 k hk8 (hle.none hr2)
            repeat (first | refine cg_region ?_ | refine rg_nil ?_ | refine eg_then ?_ | refine qsp ?_ | refine qsa ?_ | refine eg_in_normal ?_)
            exact eg_again (i + 1) _ ⟨hk10, m1.turn1 ht10 n12.symm, ⟨_, m2', by rw [htk]; exact seen2_put hs2 hp⟩, ⟨_, m3.turn1 ht10 n23, by rw [htk]; exact beyond_put hs3 hp⟩, hlt, good hg, rfl⟩ (by omega) ⟨rfl, rfl, rfl, rfl, rfl, rfl, trivial⟩
          · repeat (first | refine cg_seq ?_ | refine cg_region ?_ | refine rg_nil ?_ | refine eg_then ?_ | refine qsp ?_ | refine cg_cond_true rfl ?_ | refine cg_ret ?_ | refine eg_then_ret ?_ | refine eg_in_ret ?_)
            refine eg_return rfl rfl ?_
            refine (bad ?_).symm
            rw [hdef, q3]
            simp at q2
            simp [q2]
        · have q2 : decide (t.off ≥ m) = false := by simp at q1; simpa using q1
          have hp : pastP ms t = false := by rw [hpd]; simpa using q2
          have p0 := p0
          repeat (first | refine qsp ?_ | refine qsg ?_ | refine qsf ?_)
          refine rs rfl rfl (loc_det rfl (d_look (enc := eT) (x := t.tp) hm53 rfl rfl rfl)) ?_
          rw [e3]
          cases q3 : (l.take i).any (fun s => decide (s.tp = t.tp) && pastP ms s)
          · repeat (first | refine cg_region ?_ | refine rg_nil ?_ | refine eg_then ?_ | refine qsp ?_ | refine qsl ?_ | refine qsf ?_ | refine cg_cond_false rfl ?_)
            rw [q2]
            repeat (first | refine cg_seq ?_ | refine cg_region ?_ | refine rg_nil ?_ | refine eg_then ?_ | refine qsp ?_ | refine qsl ?_ | refine qsf ?_ | refine qso ?_ | refine cg_cond_false rfl ?_)
            rw [q2]
            repeat (first | refine cg_region ?_ | refine rg_nil ?_ | refine eg_then ?_ | refine qsp ?_ | refine qsa ?_ | refine cg_cond_false rfl ?_ | refine cg_skip ?_ | refine eg_in_normal ?_)
            have hg : onceOk ms (l.take i) t = true := by
              rw [hdef, q3]
              simp at q2
              simp
              omega
            exact eg_again (i + 1) _ ⟨hle5.trans hle7, hm5, ⟨kv2, hm52, by rw [htk]; exact seen2_stay hs2 hp⟩, ⟨kv3, hm53, by rw [htk]; exact beyond_stay hs3 hp⟩, hlt, good hg, rfl⟩ (by omega) ⟨rfl, rfl, rfl, rfl, rfl, rfl, trivial⟩
          · repeat (first | refine cg_seq ?_ | refine cg_region ?_ | refine rg_nil ?_ | refine eg_then ?_ | refine qsp ?_ | refine cg_cond_true rfl ?_ | refine cg_skip ?_ | refine cg_ret ?_ | refine eg_then_ret ?_ | refine eg_in_ret ?_)
            refine eg_return rfl rfl ?_
            refine (bad ?_).symm
            rw [hdef, q3, q1]
            simp
    · repeat (first | refine cg_seq ?_ | refine cg_region ?_ | refine rg_nil ?_ | refine eg_then ?_ | refine qsp ?_ | refine cg_ret ?_ | refine cg_exit ?_ | refine eg_then_exit ?_ | refine eg_in_exit ?_)
      refine eg_return rfl rfl ?_
      have hin : i = l.length := by simp at h; omega
      have : Scan (onceOk ms) l := fun j hj => hno j hj (by omega)
      simp [errOf, this]
end Go.Wm

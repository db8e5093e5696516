/-
  Whether transactions were told whole, the program's. Conditions: that what is handed in reads as data.
-/
import Derived.Test.YtjonlpdnhbnmmaaGreatU2
import Derived.Test.YtjonlpdnhbnmmaaGreatCoB
set_option linter.all false
namespace Go.Wm
open Go.RowKit Go.Proofs
attribute [local irreducible] RG CG EG WA Loc Det Alc CT Exit.then Exit.inBlock Code.wp bodyPost
instance : KeyOk Tryz.prog 108 eII := key_int2 Tryz.underlying108 Tryz.underlying3
def keyF (f : Fact) : Int × Int := (f.pid, f.txn)
def validF (f : Fact) : Bool := !(decide (f.pid < 0) || decide (f.txn < 0))
/-- How many there are of each transaction. -/
def cntF (l : List Fact) (p : Fact → Bool) (w : Int × Int) : Nat := (l.filter fun f => p f && decide (keyF f = w)).length
def CntMap (l : List Fact) (p : Fact → Bool) (kv : List ((Int × Int) × Value)) : Prop := (kv.map (·.1)).Nodup ∧ ∀ w, kget w kv = if cntF l p w = 0 then none else some (.int .i64 (cntF l p w : Nat))
theorem cnt_nil (p : Fact → Bool) : CntMap [] p [] := ⟨by simp, fun w => rfl⟩
theorem cntF_snoc (l : List Fact) (p : Fact → Bool) (f : Fact) (w : Int × Int) : cntF (l ++ [f]) p w = cntF l p w + (if p f && decide (keyF f = w) then 1 else 0) := by
  unfold cntF
  rw [List.filter_append, List.length_append]
  congr 1
  cases e : (p f && decide (keyF f = w)) <;> simp [e]
theorem cntF_le (l : List Fact) (p : Fact → Bool) (w : Int × Int) : cntF l p w ≤ l.length := List.length_filter_le _ _
theorem cnt_get {l : List Fact} {p : Fact → Bool} {kv : List ((Int × Int) × Value)} (h : CntMap l p kv) (w : Int × Int) : (kget w kv).getD (.int .i64 0) = .int .i64 (cntF l p w : Nat) := by
  rw [h.2 w]
  split
  · rename_i h0; rw [h0]; rfl
  · rfl
theorem cnt_put {l : List Fact} {p : Fact → Bool} {kv : List ((Int × Int) × Value)} (h : CntMap l p kv) {f : Fact} (hp : p f = true) : CntMap (l ++ [f]) p (kput (keyF f) (.int .i64 ((cntF l p (keyF f) : Nat) + 1)) kv) := ⟨kput_nodup h.1, fun w => by
  rw [kget_put, h.2 w, cntF_snoc]
  by_cases he : w = keyF f
  · subst he; simp [hp]
  · have : ¬ keyF f = w := fun h => he h.symm
    simp [he, this]⟩
theorem cnt_stay {l : List Fact} {p : Fact → Bool} {kv : List ((Int × Int) × Value)} (h : CntMap l p kv) {f : Fact} (hp : p f = false) : CntMap (l ++ [f]) p kv := ⟨h.1, fun w => by rw [h.2 w, cntF_snoc]; simp [hp]⟩
theorem cntF_pos {l : List Fact} {p : Fact → Bool} {w : Int × Int} (h : cntF l p w ≠ 0) : ∃ f ∈ l, p f = true ∧ keyF f = w := by
  unfold cntF at h
  cases e : l.filter (fun f => p f && decide (keyF f = w)) with
  | nil => rw [e] at h; exact absurd rfl h
  | cons x r =>
    have : x ∈ l.filter (fun f => p f && decide (keyF f = w)) := by rw [e]; simp
    obtain ⟨h1, h2⟩ := List.mem_filter.1 this
    simp at h2
    exact ⟨x, h1, h2.1, h2.2⟩
/-- Fewer of those that are so, than of all: one is not so. -/
theorem cntF_and_lt (l : List Fact) (p q : Fact → Bool) (w : Int × Int) : cntF l (fun f => p f && q f) w < cntF l p w ↔ ∃ f ∈ l, p f = true ∧ keyF f = w ∧ q f = false := by
  induction l with
  | nil => simp [cntF]
  | cons x l ih =>
    have hle : cntF l (fun f => p f && q f) w ≤ cntF l p w := by
      unfold cntF
      have : (l.filter fun f => (p f && q f) && decide (keyF f = w)) = (l.filter fun f => p f && decide (keyF f = w)).filter q := by
        rw [List.filter_filter]
        congr 1
        funext f
        cases p f <;> cases q f <;> simp
      rw [this]
      exact List.length_filter_le _ _
    have e1 : ∀ p : Fact → Bool, cntF (x :: l) p w = cntF l p w + (if p x && decide (keyF x = w) then 1 else 0) := fun p => by
      unfold cntF
      rw [List.filter_cons]
      cases e : (p x && decide (keyF x = w)) <;> simp
    rw [e1, e1]
    cases hp : p x <;> cases hq : q x <;> by_cases hk : keyF x = w <;> simp [hp, hq, hk, ih] <;> omega
set_option maxHeartbeats 2000000 in
theorem audWhole_ct {k : PH} {a a2 : Option Addr} {c c2 : Nat} {l : List Told} {fs : List Fact} (hl : Sl tTold k a c l) (hf : Sl tFact k a2 c2 fs) :
    CT Tryz.prog 30 #[.slice a l.length c, .slice a2 fs.length c2] k (fun _ v => v = errOf (decide (WholeR l fs)) 322) := by
  refine ct_of_body (l := [_, _]) Tryz.func30 rfl Tryz.ntmps30 (by simp) (fun _ _ _ _ h => h) fun F hF0 hFm => ?_
  have b1 := hl.cap; have b2 := hl.max; unfold maxLen at b2
  have b3 := hf.cap; have b4 := hf.max; unfold maxLen at b4
  repeat (first | refine cg_seq ?_ | refine cg_region ?_ | refine rg_nil ?_ | refine eg_then ?_ | refine qsp ?_)
  refine rb rfl rfl rfl rfl (a_makeMap rfl) ?_; intro r1 k1 hr1 hN1 hle1 hk1
  repeat (first | refine cg_seq ?_ | refine cg_region ?_ | refine rg_nil ?_ | refine eg_then ?_ | refine qsp ?_ | refine qsn ?_ | refine cg_block ?_)
  refine cg_loop (fun (i : Nat) e k' => Le k k' ∧ (∃ kv, MapAt eP k' r1 kv ∧ SeenOk (l.take i) kv) ∧ i ≤ l.length ∧ e = [(1, .is (.slice a2 fs.length c2)), (5, .is (.map (some r1))), (16, .is (.slice a l.length c)), (17, .is (.int .i64 (l.length : Int))), (18, .is (.int .i64 (i : Int)))])
    (fun i => l.length - i) 0 ⟨hle1, ⟨[], MapAt.new eP hk1, seen_nil⟩, Nat.zero_le _, rfl⟩ ⟨rfl, rfl, rfl, rfl, rfl, trivial⟩ ?_
  rintro i e k2 ⟨hle, ⟨kv1, hm1, hs1⟩, hi, rfl⟩
  repeat (first | refine cg_seq ?_ | refine cg_region ?_ | refine rg_nil ?_ | refine eg_then ?_ | refine qsp ?_)
  refine cg_cond rfl (fun h => ?_) (fun h => ?_)
  · have hlt : i < l.length := by simpa using h
    obtain ⟨bx, ox, cx, rfl, ⟨rfl, hok⟩, hcx⟩ := (hl.le hle).el i l[i] (List.getElem?_eq_getElem hlt)
    obtain ⟨t, hti⟩ : ∃ t, l[i] = t := ⟨_, rfl⟩
    rw [hti] at hcx
    have htk : l.take (i + 1) = l.take i ++ [t] := by rw [List.take_succ_eq_append_getElem hlt, hti]
    repeat (first | refine cg_seq ?_ | refine cg_region ?_ | refine eg_then ?_ | refine qsi ?_ | refine qsg ?_ | refine cg_skip ?_ | refine cg_block ?_)
    refine rb rfl rfl rfl rfl (a_alloc rfl) ?_; intro b6 k6 hb6 hN6 hle6 hk6
    skip
    refine rw1 rfl rfl rfl rfl rfl rfl rfl hk6 rfl (.inl hN6) ?_ ?_; (simp [Tp.vs, Mark.vs, OpenT.vs, Gone.vs, Tx.cs, View.cs, Rec.vs, Batch.cs, Who.vs, Pl.vs, Told.vs, Fact.vs, Place.vs, Value.oneCell']); intro k7 ht7 hk7
    have c7 := cells_at (vs := t.vs) hk7 rfl
    have hle7 : Le k2 k7 := ht7 k2 hle6 hb6
    have hm1 := hm1.le hle7
    repeat (first | refine cg_region ?_ | refine rg_nil ?_ | refine eg_then ?_ | refine qsp ?_ | refine qsg ?_)
    refine rs rfl rfl (loc_call_is rfl rfl rfl rfl (audOf_ct t)) ?_
    refine r_put (enc := eP) (x := ofP t) hm1 hN1 rfl rfl rfl rfl rfl rfl rfl ?_
    intro k8 ht8 hm8
    repeat (first | refine cg_region ?_ | refine rg_nil ?_ | refine eg_then ?_ | refine qsp ?_ | refine qsa ?_ | refine eg_in_normal ?_)
    exact eg_again (i + 1) _ ⟨ht8 k (hle.trans hle7) hr1, ⟨_, hm8, by rw [htk]; exact seen_put hs1 t⟩, hlt, rfl⟩ (by omega) ⟨rfl, rfl, rfl, rfl, rfl, trivial⟩
  · have hil : i = l.length := by simp at h; omega
    subst hil
    rw [List.take_length] at hs1
    repeat (first | refine cg_seq ?_ | refine cg_region ?_ | refine eg_then ?_ | refine cg_exit ?_ | refine eg_then_exit ?_ | refine eg_in_exit ?_)
    refine rb rfl rfl rfl rfl (a_makeMap rfl) ?_; intro r2 k3 hr2 hN2 hle3 hk3
    refine rb rfl rfl rfl rfl (a_makeMap rfl) ?_; intro r3 k4 hr3 hN3 hle4 hk4
    have n21 := hm1.ne hr2
    have n31 := (hm1.le hle3).ne hr3
    have n32 := some_ne hk3 hr3
    repeat (first | refine cg_seq ?_ | refine cg_region ?_ | refine rg_nil ?_ | refine eg_then ?_ | refine qsp ?_ | refine qsn ?_ | refine cg_block ?_)
    refine cg_loop (fun (i : Nat) e k' => Le k k' ∧ MapAt eP k' r1 kv1 ∧ (∃ kv, MapAt eII k' r2 kv ∧ CntMap (fs.take i) validF kv) ∧ (∃ kv, MapAt eII k' r3 kv ∧ CntMap (fs.take i) (fun f => validF f && atP l f.tp f.off) kv) ∧ (∀ f ∈ fs.take i, (validF f && atP l f.tp f.off) = true → f.done = true) ∧ i ≤ fs.length ∧
        e = [(5, .is (.map (some r1))), (8, .is (.map (some r2))), (9, .is (.map (some r3))), (28, .is (.slice a2 fs.length c2)), (29, .is (.int .i64 (fs.length : Int))), (30, .is (.int .i64 (i : Int)))])
      (fun i => fs.length - i) 0 ⟨hle.trans (hle3.trans hle4), hm1.le (hle3.trans hle4), ⟨[], (MapAt.new eII hk3).le hle4, cnt_nil _⟩, ⟨[], MapAt.new eII hk4, cnt_nil _⟩, by simp, Nat.zero_le _, rfl⟩ ⟨rfl, rfl, rfl, rfl, rfl, rfl, trivial⟩ ?_
    rintro i e k5 ⟨hle5, hm5, ⟨kv2, hm52, hs2⟩, ⟨kv3, hm53, hs3⟩, hdone, hi, rfl⟩
    repeat (first | refine cg_seq ?_ | refine cg_region ?_ | refine rg_nil ?_ | refine eg_then ?_ | refine qsp ?_)
    refine cg_cond rfl (fun h => ?_) (fun h => ?_)
    · have hlt : i < fs.length := by simpa using h
      obtain ⟨bx, ox, cx, rfl, ⟨rfl, hok⟩, hcx⟩ := (hf.le hle5).el i fs[i] (List.getElem?_eq_getElem hlt)
      obtain ⟨f, hfi⟩ : ∃ f, fs[i] = f := ⟨_, rfl⟩
      rw [hfi] at hcx
      have htk : fs.take (i + 1) = fs.take i ++ [f] := by rw [List.take_succ_eq_append_getElem hlt, hfi]
      repeat (first | refine cg_seq ?_ | refine cg_region ?_ | refine eg_then ?_ | refine qsi ?_ | refine qsg ?_ | refine cg_skip ?_ | refine cg_block ?_)
      refine rb rfl rfl rfl rfl (a_alloc rfl) ?_; intro b6 k6 hb6 hN6 hle6 hk6
      skip
      refine rw1 rfl rfl rfl rfl rfl rfl rfl hk6 rfl (.inl hN6) ?_ ?_; (simp [Tp.vs, Mark.vs, OpenT.vs, Gone.vs, Tx.cs, View.cs, Rec.vs, Batch.cs, Who.vs, Pl.vs, Told.vs, Fact.vs, Place.vs, Value.oneCell']); intro k7 ht7 hk7
      have c7 := cells_at (vs := f.vs) hk7 rfl
      have hle7 : Le k5 k7 := ht7 k5 hle6 hb6
      have n61 := hm5.ne hb6
      have n62 := hm52.ne hb6
      have n63 := hm53.ne hb6
      have hm5 := hm5.le hle7
      have hm52 := hm52.le hle7
      have hm53 := hm53.le hle7
      obtain ⟨p0, p1, p2, p3, p4, p5⟩ := Fact.parts c7
      have hskip : validF f = false → ∀ g ∈ fs.take (i + 1), (validF g && atP l g.tp g.off) = true → g.done = true := fun hv g hg hvg => by
        rw [htk] at hg
        rcases List.mem_append.1 hg with hg | hg
        · exact hdone g hg hvg
        · simp at hg; subst hg; rw [hv] at hvg; cases hvg
      have skip : validF f = false → CntMap (fs.take (i + 1)) validF kv2 ∧ CntMap (fs.take (i + 1)) (fun f => validF f && atP l f.tp f.off) kv3 := fun hv => by
        rw [htk]; exact ⟨cnt_stay hs2 hv, cnt_stay hs3 (by simp [hv])⟩
      repeat (first | refine cg_seq ?_ | refine cg_region ?_ | refine rg_nil ?_ | refine eg_then ?_ | refine qsp ?_ | refine qsl ?_ | refine qsf ?_)
      cases q1 : decide (f.pid < 0)
      rotate_left
      · have hv : validF f = false := by unfold validF; rw [q1]; rfl
        repeat (first | refine cg_region ?_ | refine rg_nil ?_ | refine eg_then ?_ | refine qsp ?_ | refine qsa ?_ | refine qso ?_ | refine cg_cond_true rfl ?_ | refine cg_exit ?_ | refine eg_then_exit ?_ | refine eg_in_exit ?_)
        exact eg_again (i + 1) _ ⟨hle5.trans hle7, hm5, ⟨_, hm52, (skip hv).1⟩, ⟨_, hm53, (skip hv).2⟩, hskip hv, hlt, rfl⟩ (by omega) ⟨rfl, rfl, rfl, rfl, rfl, rfl, trivial⟩
      repeat (first | refine rg_nil ?_ | refine eg_then ?_ | refine qsp ?_ | refine qsl ?_ | refine qsf ?_)
      cases q2 : decide (f.txn < 0)
      rotate_left
      · have hv : validF f = false := by unfold validF; rw [q1, q2]; rfl
        repeat (first | refine cg_region ?_ | refine rg_nil ?_ | refine eg_then ?_ | refine qsp ?_ | refine qsa ?_ | refine cg_cond_true rfl ?_ | refine cg_exit ?_ | refine eg_then_exit ?_ | refine eg_in_exit ?_)
        exact eg_again (i + 1) _ ⟨hle5.trans hle7, hm5, ⟨_, hm52, (skip hv).1⟩, ⟨_, hm53, (skip hv).2⟩, hskip hv, hlt, rfl⟩ (by omega) ⟨rfl, rfl, rfl, rfl, rfl, rfl, trivial⟩
      have hv : validF f = true := by unfold validF; rw [q1, q2]; rfl
      repeat (first | refine cg_seq ?_ | refine cg_region ?_ | refine eg_then ?_ | refine qsl ?_ | refine qsf ?_ | refine cg_cond_false rfl ?_ | refine cg_skip ?_)
      refine rs rfl rfl (loc_det rfl (d_arr2 rfl rfl rfl)) ?_
      refine rb rfl rfl rfl rfl (a_alloc rfl) ?_; intro b8 k8 hb8 hN8 hle8 hk8
      refine rw1 (vs := [.int .i64 f.pid, .int .i64 f.txn]) rfl rfl rfl rfl rfl rfl rfl hk8 rfl (.inl hN8) (by simp [Value.oneCell']) ?_
      intro k9 ht9 hk9
      have hle9 : Le k7 k9 := ht9 k7 hle8 hb8
      have c9 := cells_at (vs := [.int .i64 f.pid, .int .i64 f.txn]) hk9 rfl
      have n81 := hm5.ne hb8
      have n82 := hm52.ne hb8
      have n83 := hm53.ne hb8
      have hm5 := hm5.le hle9
      have hm53 := hm53.le hle9
      have hm52 := hm52.le hle9
      have c7 := c7.le hle9
      obtain ⟨w, hw⟩ : ∃ w, keyF f = w := ⟨_, rfl⟩
      have hwv : (Value.agg #[.int .i64 f.pid, .int .i64 f.txn] : Value) = eII w := by subst hw; rfl
      obtain ⟨m2, hm2⟩ : ∃ m, cntF (fs.take i) validF w = m := ⟨_, rfl⟩
      have hml2 : m2 ≤ i := by rw [← hm2]; exact Nat.le_trans (cntF_le _ _ _) (by simp; omega)
      have hg2 := cnt_get hs2 w
      rw [hm2] at hg2
      repeat (first | refine cg_seq ?_ | refine rg_nil ?_ | refine eg_then ?_)
      obtain ⟨es, cl, g1, rfl, g3, g4⟩ := hm52
      rw [← atE_kget] at hg2
      obtain ⟨u1, u2, u3⟩ := ent_put w (.int .i64 0) (.int .i64 ((m2 : Int) + 1)) es cl g3 g4
      obtain ⟨v1, v2, v3⟩ := upd_kput w (.int .i64 ((m2 : Int) + 1)) es cl g3 g4
      rw [← u1] at v1 v2 v3
      rw [← u2] at v3
      have hat := at_ent w (.int .i64 0) es cl
      generalize hE : entE w (.int .i64 0) es cl = E at u3 v1 v2 v3 hat
      refine cg_chain 6 [4] (fun s => [(r2, match s with | 0 => .map (es.map (toE eII)).toArray cl | _ => .map ((E.1).map (toE eII)).toArray E.2.1)]) [r2] (fun s => rfl) (by kernel_rfl) (by kernel_rfl) rfl (by kernel_rfl) rfl (by simpa using g1) (by simpa using hN2) ?_
      have d9 := c9.delL (rs := [r2]) (by simpa using n82)
      dsimp only [List.take]
      repeat (first | refine qcp ?_ | refine qcg ?_)
      refine wc_i rfl (lc_lookup (enc := eII) (x := w) (v := .int .i64 (m2 : Int)) (z := .int .i64 0) rfl rfl rfl (congrArg some hwv) (fun s hs _ => ?_)) rfl ?_
      · match s, hs with
        | 0, _ => exact ⟨0, es, cl, rfl, hg2⟩
        | 1, _ => exact ⟨0, E.1, E.2.1, rfl, hat.trans hg2⟩
      repeat (first | refine qca ?_)
      refine wc_e 0 rfl (effs_entry (enc := eII) (x := w) (z := .int .i64 0) (j := 0) rfl rfl rfl (congrArg some hwv) rfl (by rw [hE]; rfl) (by intro i p hp hi; match i with | 0 => exact absurd rfl hi | i + 1 => simp at hp) hN2) ?_
      rw [hE]
      repeat (first | refine qcp ?_)
      refine wc_nil ?_
      intro ka vs hlea hvs
      dsimp only [List.drop, nameE, nameP, List.length, setL]
      refine r_entryStore (enc := eII) rfl rfl rfl rfl rfl rfl rfl (upd_same _ _ _) u3 hN2 ?_
      rw [upd_upd]
      have h9 : ∀ b o, k9 b = some o → b ≠ r2 → ka b = some o := fun b o hb hn => hlea b o (by rw [delL_of (by simpa using hn)]; exact hb)
      have m2' : MapAt eII (upd ka r2 (.map ((putE E.2.2 (.int .i64 ((m2 : Int) + 1)) E.1).map (toE eII)).toArray E.2.1)) r2 _ := ⟨_, _, upd_same _ _ _, v1, v2, v3⟩
      have m1' : MapAt eP (upd ka r2 (.map ((putE E.2.2 (.int .i64 ((m2 : Int) + 1)) E.1).map (toE eII)).toArray E.2.1)) r1 kv1 := by
        obtain ⟨es2, cl2, w1, w2⟩ := hm5
        exact ⟨es2, cl2, by rw [upd_other n21.symm]; exact h9 _ _ w1 n21.symm, w2⟩
      have m3' : MapAt eII (upd ka r2 (.map ((putE E.2.2 (.int .i64 ((m2 : Int) + 1)) E.1).map (toE eII)).toArray E.2.1)) r3 kv3 := by
        obtain ⟨es2, cl2, w1, w2⟩ := hm53
        exact ⟨es2, cl2, by rw [upd_other n32]; exact h9 _ _ w1 n32, w2⟩
      have ca : ∀ {b off vs}, b ≠ r2 → Cells k9 b off vs → Cells (upd ka r2 (.map ((putE E.2.2 (.int .i64 ((m2 : Int) + 1)) E.1).map (toE eII)).toArray E.2.1)) b off vs := fun hn hc => by
        obtain ⟨cc, et, fr, w1, w2⟩ := hc
        exact ⟨cc, et, fr, by rw [upd_other hn]; exact h9 _ _ w1 hn, w2⟩
      have hka : Le k (upd ka r2 (.map ((putE E.2.2 (.int .i64 ((m2 : Int) + 1)) E.1).map (toE eII)).toArray E.2.1)) := fun b o hb => by
        have hb1 : b ≠ r2 := by rintro rfl; rw [hle.none hr2] at hb; cases hb
        rw [upd_other hb1]
        exact h9 _ _ (hle9 _ _ (hle7 _ _ (hle5 _ _ hb))) hb1
      have c7a := ca n62 c7
      have c9a := ca n82 c9
      have hm9 : Cells k9 b6 0 f.vs := c7
      generalize upd ka r2 (.map ((putE E.2.2 (.int .i64 ((m2 : Int) + 1)) E.1).map (toE eII)).toArray E.2.1) = kb at m1' m2' m3' hka c7a c9a ⊢
      have hs2' : CntMap (fs.take (i + 1)) validF (kput w (.int .i64 ((m2 : Int) + 1)) (es.map fun p => (p.1, p.2.1))) := by
        rw [htk, ← hm2, ← hw]; exact cnt_put hs2 hv
      obtain ⟨q0, q1', q2', q3', q4', q5'⟩ := Fact.parts c7a
      repeat (first | refine cg_seq ?_ | refine cg_region ?_ | refine rg_nil ?_ | refine eg_then ?_ | refine qsp ?_ | refine qsl ?_ | refine qsg ?_ | refine qsf ?_)
      refine rs rfl rfl (loc_det rfl (d_lit (cells := (⟨f.tp, f.off⟩ : Place).vs) rfl rfl rfl)) ?_
      refine rs rfl rfl (loc_det rfl (d_look (enc := eP) (x := (⟨f.tp, f.off⟩ : Place)) m1' rfl rfl rfl)) ?_
      rw [hs1 ⟨f.tp, f.off⟩]
      cases hat : atP l f.tp f.off
      · repeat (first | refine cg_region ?_ | refine rg_nil ?_ | refine eg_then ?_ | refine qsp ?_ | refine qsa ?_ | refine cg_cond_false rfl ?_ | refine cg_skip ?_ | refine eg_in_normal ?_)
        refine eg_again (i + 1) _ ⟨hka, m1', ⟨_, m2', hs2'⟩, ⟨_, m3', by rw [htk]; exact cnt_stay hs3 (by simp [hat])⟩, fun g hg hvg => ?_, hlt, rfl⟩ (by omega) ⟨rfl, rfl, rfl, rfl, rfl, rfl, trivial⟩
        rw [htk] at hg
        rcases List.mem_append.1 hg with hg | hg
        · exact hdone g hg hvg
        · simp at hg; subst hg; rw [hat] at hvg; simp at hvg
      · have hvt : (validF f && atP l f.tp f.off) = true := by rw [hv, hat]; rfl
        repeat (first | refine cg_seq ?_ | refine rg_nil ?_ | refine eg_then ?_ | refine cg_cond_true rfl ?_)
        obtain ⟨m3, hm3⟩ : ∃ m, cntF (fs.take i) (fun f => validF f && atP l f.tp f.off) w = m := ⟨_, rfl⟩
        have hml3 : m3 ≤ i := by rw [← hm3]; exact Nat.le_trans (cntF_le _ _ _) (by simp; omega)
        have hg3 := cnt_get hs3 w
        rw [hm3] at hg3
        obtain ⟨es3, cl3, g1', rfl, g3', g4'⟩ := m3'
        rw [← atE_kget] at hg3
        obtain ⟨x1, x2, x3⟩ := ent_put w (.int .i64 0) (.int .i64 ((m3 : Int) + 1)) es3 cl3 g3' g4'
        obtain ⟨y1, y2, y3⟩ := upd_kput w (.int .i64 ((m3 : Int) + 1)) es3 cl3 g3' g4'
        rw [← x1] at y1 y2 y3
        rw [← x2] at y3
        have hat3 := at_ent w (.int .i64 0) es3 cl3
        generalize hE3 : entE w (.int .i64 0) es3 cl3 = E3 at x3 y1 y2 y3 hat3
        refine cg_chain 6 [4] (fun s => [(r3, match s with | 0 => .map (es3.map (toE eII)).toArray cl3 | _ => .map ((E3.1).map (toE eII)).toArray E3.2.1)]) [r3] (fun s => rfl) (by kernel_rfl) (by kernel_rfl) rfl (by kernel_rfl) rfl (by simpa using g1') (by simpa using hN3) ?_
        have d9 := c9a.delL (rs := [r3]) (by simpa using n83)
        dsimp only [List.take]
        repeat (first | refine qcp ?_ | refine qcg ?_)
        refine wc_i rfl (lc_lookup (enc := eII) (x := w) (v := .int .i64 (m3 : Int)) (z := .int .i64 0) rfl rfl rfl (congrArg some hwv) (fun s hs _ => ?_)) rfl ?_
        · match s, hs with
          | 0, _ => exact ⟨0, es3, cl3, rfl, hg3⟩
          | 1, _ => exact ⟨0, E3.1, E3.2.1, rfl, hat3.trans hg3⟩
        repeat (first | refine qca ?_)
        refine wc_e 0 rfl (effs_entry (enc := eII) (x := w) (z := .int .i64 0) (j := 0) rfl rfl rfl (congrArg some hwv) rfl (by rw [hE3]; rfl) (by intro i p hp hi; match i with | 0 => exact absurd rfl hi | i + 1 => simp at hp) hN3) ?_
        rw [hE3]
        repeat (first | refine qcp ?_)
        refine wc_nil ?_
        intro kc vs' hlec hvs'
        dsimp only [List.drop, nameE, nameP, List.length, setL]
        refine r_entryStore (enc := eII) rfl rfl rfl rfl rfl rfl rfl (upd_same _ _ _) x3 hN3 ?_
        rw [upd_upd]
        have h9' : ∀ b o, kb b = some o → b ≠ r3 → kc b = some o := fun b o hb hn => hlec b o (by rw [delL_of (by simpa using hn)]; exact hb)
        have z3' : MapAt eII (upd kc r3 (.map ((putE E3.2.2 (.int .i64 ((m3 : Int) + 1)) E3.1).map (toE eII)).toArray E3.2.1)) r3 _ := ⟨_, _, upd_same _ _ _, y1, y2, y3⟩
        have z1' : MapAt eP (upd kc r3 (.map ((putE E3.2.2 (.int .i64 ((m3 : Int) + 1)) E3.1).map (toE eII)).toArray E3.2.1)) r1 kv1 := by
          obtain ⟨es2, cl2, w1, w2⟩ := m1'
          exact ⟨es2, cl2, by rw [upd_other n31.symm]; exact h9' _ _ w1 n31.symm, w2⟩
        have z2' : MapAt eII (upd kc r3 (.map ((putE E3.2.2 (.int .i64 ((m3 : Int) + 1)) E3.1).map (toE eII)).toArray E3.2.1)) r2 (kput w (.int .i64 ((m2 : Int) + 1)) (es.map fun p => (p.1, p.2.1))) := by
          obtain ⟨es2, cl2, w1, w2⟩ := m2'
          exact ⟨es2, cl2, by rw [upd_other n32.symm]; exact h9' _ _ w1 n32.symm, w2⟩
        have hkc : Le k (upd kc r3 (.map ((putE E3.2.2 (.int .i64 ((m3 : Int) + 1)) E3.1).map (toE eII)).toArray E3.2.1)) := fun b o hb => by
          have hb1 : b ≠ r3 := by rintro rfl; rw [(hle.trans hle3).none hr3] at hb; cases hb
          rw [upd_other hb1]
          exact h9' _ _ (hka _ _ hb) hb1
        have c7c : Cells (upd kc r3 (.map ((putE E3.2.2 (.int .i64 ((m3 : Int) + 1)) E3.1).map (toE eII)).toArray E3.2.1)) b6 0 f.vs := by
          obtain ⟨cc, et, fr, w1, w2⟩ := c7a
          exact ⟨cc, et, fr, by rw [upd_other n63]; exact h9' _ _ w1 n63, w2⟩
        generalize upd kc r3 (.map ((putE E3.2.2 (.int .i64 ((m3 : Int) + 1)) E3.1).map (toE eII)).toArray E3.2.1) = kd at z1' z2' z3' hkc c7c ⊢
        have hs3' : CntMap (fs.take (i + 1)) (fun f => validF f && atP l f.tp f.off) (kput w (.int .i64 ((m3 : Int) + 1)) (es3.map fun p => (p.1, p.2.1))) := by
          rw [htk, ← hm3, ← hw]; exact cnt_put hs3 hvt
        obtain ⟨q0, q1', q2', q3', q4', q5'⟩ := Fact.parts c7c
        repeat (first | refine cg_seq ?_ | refine cg_region ?_ | refine rg_nil ?_ | refine eg_then ?_ | refine qsp ?_ | refine qsl ?_ | refine qsf ?_)
        cases hd : f.done
        · repeat (first | refine cg_seq ?_ | refine cg_region ?_ | refine rg_nil ?_ | refine eg_then ?_ | refine qsp ?_ | refine cg_cond_true rfl ?_ | refine cg_ret ?_ | refine eg_then_ret ?_ | refine eg_in_ret ?_)
          refine eg_return rfl rfl ?_
          have : ¬ WholeR l fs := fun hw => by
            rcases hw i hlt with h | h
            · rw [hfi] at h
              simp only [skipF, q1, q2, hat] at h
              cases h
            · have := h i hlt
              rw [hfi] at this
              simp [badF, hd] at this
          simp [errOf, this]
        · repeat (first | refine cg_region ?_ | refine rg_nil ?_ | refine eg_then ?_ | refine qsp ?_ | refine qsa ?_ | refine cg_cond_false rfl ?_ | refine cg_skip ?_ | refine eg_in_normal ?_)
          refine eg_again (i + 1) _ ⟨hkc, z1', ⟨_, z2', hs2'⟩, ⟨_, z3', hs3'⟩, fun g hg hvg => ?_, hlt, rfl⟩ (by omega) ⟨rfl, rfl, rfl, rfl, rfl, rfl, trivial⟩
          rw [htk] at hg
          rcases List.mem_append.1 hg with hg | hg
          · exact hdone g hg hvg
          · simp at hg; subst hg; exact hd
    · have hil : i = fs.length := by simp at h; omega
      subst hil
      rw [List.take_length] at hs2 hs3 hdone
      have key : WholeR l fs ↔ ∀ w, cntF fs (fun f => validF f && atP l f.tp f.off) w ≠ 0 → ¬ cntF fs (fun f => validF f && atP l f.tp f.off) w < cntF fs validF w := by
        constructor
        · intro hw w h0 hlt
          obtain ⟨f, hf1, hf2, hf3⟩ := cntF_pos h0
          obtain ⟨g, hg1, hg2, hg3, hg4⟩ := (cntF_and_lt fs validF (fun f => atP l f.tp f.off) w).1 hlt
          simp only [Bool.and_eq_true] at hf2
          obtain ⟨i, hi, rfl⟩ := List.getElem_of_mem hf1
          obtain ⟨j, hj, rfl⟩ := List.getElem_of_mem hg1
          rcases hw i hi with h | h
          · have hv := hf2.1
            simp only [validF] at hv
            simp only [skipF, hf2.2] at h
            cases hh : (decide (fs[i].pid < 0) || decide (fs[i].txn < 0)) <;> rw [hh] at h hv <;> simp at h hv
          · have := h j hj
            have hk : keyF fs[j] = keyF fs[i] := hg3.trans hf3.symm
            simp only [keyF, Prod.mk.injEq] at hk
            simp [badF, hk.1, hk.2, hg4] at this
        · intro hw i hi
          unfold WholeAt
          cases hs : skipF l fs[i]
          · right
            intro j hj
            simp only [skipF, Bool.or_eq_false_iff, Bool.not_eq_false'] at hs
            have hv : validF fs[i] = true := by simp only [validF, hs.1]; simp
            have hvt : (validF fs[i] && atP l fs[i].tp fs[i].off) = true := by rw [hv, hs.2]; rfl
            cases hb : badF l i fs[i] j fs[j]
            · rfl
            · exfalso
              simp only [badF, Bool.and_eq_true, Bool.or_eq_true, decide_eq_true_eq, Bool.not_eq_true'] at hb
              obtain ⟨⟨hp, ht⟩, hb⟩ := hb
              rcases hb with ⟨rfl, hb⟩ | hb
              · have := hdone _ (List.getElem_mem hi) hvt
                rw [hb] at this; cases this
              · have hk : keyF fs[j] = keyF fs[i] := by simp [keyF, hp, ht]
                have hvj : validF fs[j] = true := by
                  simp only [validF, hp, ht]
                  simpa [validF] using hv
                refine hw (keyF fs[i]) ?_ ((cntF_and_lt fs validF (fun f => atP l f.tp f.off) (keyF fs[i])).2 ⟨fs[j], List.getElem_mem hj, hvj, hk, hb⟩)
                intro h0
                have : fs[i] ∈ fs.filter (fun f => (validF f && atP l f.tp f.off) && decide (keyF f = keyF fs[i])) := List.mem_filter.2 ⟨List.getElem_mem hi, by simp [hvt]⟩
                rw [cntF, List.length_eq_zero_iff] at h0
                rw [h0] at this
                cases this
          · exact .inl rfl
      repeat (first | refine cg_seq ?_ | refine cg_region ?_ | refine eg_then ?_ | refine qsp ?_ | refine cg_exit ?_ | refine eg_then_exit ?_ | refine eg_in_exit ?_)
      obtain ⟨es, cl, g1, rfl, g3, g4⟩ := hm53
      refine rb rfl rfl rfl rfl (a_range rfl rfl g1) ?_; intro it k6 hit hNit hle6 hk6
      have hitr : it ≠ r3 := some_ne g1 hit
      repeat (first | refine rg_nil ?_ | refine eg_then ?_ | refine cg_block ?_)
      refine cg_loop (fun (seen : Array Nat) e k' => k' it = some (.mapIter (some r3) cl seen cl) ∧ k' r3 = some (.map (es.map (toE eII)).toArray cl) ∧ MapAt eII k' r2 kv2 ∧ (∀ p ∈ es, p.2.2 ∈ seen.toList → ¬ cntF fs (fun f => validF f && atP l f.tp f.off) p.1 < cntF fs validF p.1) ∧ e = [(8, .is (.map (some r2))), (71, .is (.pointer (some ⟨it, 0, none⟩)))])
        (fun seen => restOf es seen) #[] ⟨hk6, hle6 _ _ g1, hm52.le hle6, fun p hp h => by simp at h, rfl⟩ ⟨rfl, rfl, trivial⟩ ?_
      rintro seen e k7 ⟨hi7, hr7, hm7, hgood, rfl⟩
      repeat (first | refine cg_seq ?_ | refine cg_region ?_)
      refine r_next (enc := eII) rfl rfl rfl rfl rfl rfl hi7 hr7 g4 hNit (fun hall => ?_) (fun p hp hns k8 ht8 hi8 => ?_)
      · repeat (first | refine cg_seq ?_ | refine cg_region ?_ | refine rg_nil ?_ | refine eg_then ?_ | refine qsp ?_ | refine cg_cond_false rfl ?_ | refine cg_ret ?_ | refine cg_exit ?_ | refine eg_then_exit ?_ | refine eg_in_exit ?_)
        refine eg_return rfl rfl ?_
        have : WholeR l fs := key.2 fun w h0 => by
          have hw := hs3.2 w
          rw [if_neg h0] at hw
          obtain ⟨q, hq, he⟩ := List.mem_map.1 (kget_some hw)
          have hqw : q.1 = w := congrArg Prod.fst he
          rw [← hqw]
          exact hgood q hq (hall q hq)
        simp [errOf, this]
      · have hr8 := turn1_get ht8 hitr.symm hr7
        have hm8 := hm7.turn1 ht8 (by rintro rfl; obtain ⟨_, _, w1, _⟩ := hm7; rw [hi7] at w1; cases w1)
        repeat (first | refine cg_seq ?_ | refine cg_region ?_ | refine rg_nil ?_ | refine eg_then ?_ | refine qsp ?_ | refine cg_cond_true rfl ?_ | refine cg_skip ?_ | refine cg_block ?_)
        refine rs rfl rfl (loc_det rfl (d_entry (enc := eII) rfl rfl hi8 hr8 hp g3)) ?_
        have hval := kget_mem (l := es.map fun p => (p.1, p.2.1)) hs3.1 (List.mem_map.2 ⟨p, hp, rfl⟩)
        rw [hs3.2 p.1] at hval
        obtain ⟨w, v, st⟩ := p
        simp only at hval hi8 hns hp
        have hc0 : cntF fs (fun f => validF f && atP l f.tp f.off) w ≠ 0 := fun h0 => by rw [if_pos h0] at hval; cases hval
        rw [if_neg hc0] at hval
        cases hval
        repeat (first | refine qsp ?_)
        refine rb rfl rfl rfl rfl (a_alloc rfl) ?_; intro b9 k9 hb9 hN9 hle9 hk9
        refine rw1 (vs := [.int .i64 w.1, .int .i64 w.2]) rfl rfl rfl rfl rfl rfl rfl hk9 rfl (.inl hN9) (by simp [Value.oneCell']) ?_
        intro ka hta hka
        have hlea : Le k8 ka := hta k8 hle9 hb9
        have ca := cells_at (vs := [.int .i64 w.1, .int .i64 w.2]) hka rfl
        have hma := hm8.le hlea
        repeat (first | refine cg_seq ?_ | refine cg_region ?_ | refine rg_nil ?_ | refine eg_then ?_ | refine qsp ?_ | refine qsg ?_)
        refine rs rfl rfl (loc_det rfl (d_look (enc := eII) (x := w) hma rfl rfl rfl)) ?_
        rw [cnt_get hs2 w]
        repeat (first | refine rg_nil ?_ | refine eg_then ?_ | refine qsp ?_)
        refine cg_cond rfl (fun h => ?_) (fun h => ?_)
        · repeat (first | refine cg_seq ?_ | refine cg_region ?_ | refine rg_nil ?_ | refine eg_then ?_ | refine qsp ?_ | refine cg_ret ?_ | refine eg_then_ret ?_ | refine eg_in_ret ?_)
          refine eg_return rfl rfl ?_
          have : ¬ WholeR l fs := fun hw => key.1 hw w hc0 (by simpa using h)
          simp [errOf, this]
        · repeat (first | refine cg_skip ?_ | refine eg_in_normal ?_)
          refine eg_again (seen.push st) _ ⟨hlea _ _ hi8, hlea _ _ hr8, hma, fun q hq hqs => ?_, rfl⟩ (rest_lt hp hns) ⟨rfl, rfl, trivial⟩
          simp only [Array.toList_push, List.mem_append, List.mem_singleton] at hqs
          rcases hqs with hqs | hqs
          · exact hgood q hq hqs
          · have : q = (w, .int .i64 (cntF fs (fun f => validF f && atP l f.tp f.off) w : Nat), st) := stamp_inj (f := fun p => p.2.2) g3 hq hp hqs
            subst this
            simpa using h
end Go.Wm

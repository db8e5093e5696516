/-
  The document's less, Leave and Tick. Conditions: that what is handed in reads as data.
-/
import Derived.Test.YtbhgbfhgdccghaaGreatK9
import Derived.Test.YtbhgbfhgdccghaaGreatR11
import Derived.Test.YtbhgbfhgdccghaaGreatK14
set_option linter.all false
namespace Go.Wm
open Go.RowKit Go.Proofs
/-- What is told behind some have gone. -/
def refLessG (g q : Group) : Group × Int := if g.state = 2 ∧ 0 < q.l.length then (if 1048576 ≤ q.gen then (noG, 2) else ({ roundG q with state := stateG (roundG q).l }, 0)) else ({ q with state := stateG q.l }, 0)
theorem smallG_round {q : Group} (h : SmallG q) : SmallG (roundG q) := ⟨by show (q.l.map unjoin).length * 96 ≤ _; rw [List.length_map]; exact h.1, fun y hy => by
  obtain ⟨x, hx, rfl⟩ := List.mem_map.1 hy
  exact h.2 x hx⟩
attribute [local irreducible] RG CG EG WA Loc Det Alc CT Exit.then Exit.inBlock Code.wp bodyPost
set_option maxHeartbeats 4000000 in
theorem refLess_ct {k : PH} {g q : Group} {a a' : Option Addr} {c c' : Nat} (hl : Sl tMember k a c g.l) (hl' : Sl tMember k a' c' q.l) (hsm : SmallG q) (hgen : I64 q.gen) : CT Tryz.prog 45 #[.agg (g.cs a c).toArray, .agg (q.cs a' c').toArray] k (GrpV (refLessG g q)) := by
  refine ct_of_body (l := [_, _]) Tryz.func45 rfl Tryz.ntmps45 (by simp) GrpV.mono fun F hF0 hFm => ?_
  have b1 := hl'.cap; have b2 := hl'.max; unfold maxLen at b2
  repeat (first | refine cg_seq ?_ | refine cg_region ?_)
  refine rb rfl rfl rfl rfl (a_box rfl rfl) ?_; intro b2 k2 hb2 hN2 hle2 hk2
  refine rb rfl rfl rfl rfl (a_box rfl rfl) ?_; intro b3 k3 hb3 hN3 hle3 hk3
  refine rb rfl rfl rfl rfl (a_alloc rfl) ?_; intro b4 k4 hb4 hN4 hle4 hk4
  have kb3 : k b3 = none := by
    cases hc : k b3 with
    | none => rfl
    | some ob => have := hle2 _ _ hc; rw [hb3] at this; cases this
  have kb4 : k b4 = none := by
    cases hc : k b4 with
    | none => rfl
    | some ob => have := hle3 _ _ (hle2 _ _ hc); rw [hb4] at this; cases this
  have n34 : b3 ≠ b4 := fun e => by rw [← e, hk3] at hb4; cases hb4
  have hk3 := hle4 _ _ hk3
  have hk2 := hle4 _ _ (hle3 _ _ hk2)
  have hle : Le k k4 := hle2.trans (hle3.trans hle4)
  have p2 := (Group.parts (cells_at (vs := g.cs a c) hk2 rfl)).2.2.1
  have q3 := (Group.parts (cells_at (vs := q.cs a' c') hk3 rfl)).2.2.2
  clear hle2 hle3 hle4 hk2
  repeat (first | refine cg_seq ?_ | refine cg_region ?_ | refine rg_nil ?_ | refine eg_then ?_ | refine qsp ?_ | refine qsl ?_ | refine qsf ?_)
  apply meetRJ (fun e' k' => ∃ (y : Group) (a6 : Option Addr) (c6 : Nat) (kB : PH), Le k kB ∧ kB b4 = none ∧ Le kB k' ∧ Sl tMember kB a6 c6 y.l ∧ SmallG y ∧ k' b4 = some (.cells (noG.cs none 0).toArray 24 (0, 0)) ∧ refLessG g q = ({ y with state := stateG y.l }, 0) ∧ e' = [(4, .is (.pointer (some ⟨b4, 0, none⟩))), (27, .is (.agg (y.cs a6 c6).toArray))])
  · intro go
    cases z1 : (g.state == 2)
    · have z1 : g.state ≠ 2 := by simpa using z1
      have hq : refLessG g q = ({ q with state := stateG q.l }, 0) := by unfold refLessG; rw [if_neg (fun h => z1 h.1)]
      have d3 := cells_at (vs := q.cs a' c') hk3 rfl
      repeat (first | refine cg_seq ?_ | refine cg_region ?_ | refine rg_nil ?_ | refine eg_then ?_ | refine qsp ?_ | refine qsg ?_ | refine qso ?_ | refine cg_cond_false rfl ?_ | refine cg_skip ?_)
      exact go _ _ _ ⟨q, a', c', k, Le.refl _, kb4, hle, hl', hsm, hk4, hq, rfl⟩ ⟨rfl, rfl, trivial⟩
    have z1 : g.state = 2 := by simpa using z1
    repeat (first | refine rg_nil ?_ | refine eg_then ?_ | refine qsp ?_ | refine qsn ?_ | refine qsl ?_ | refine qsf ?_)
    cases z2 : decide ((q.l.length : Int) > 0)
    · have z2 := of_decide_eq_false z2
      have hq : refLessG g q = ({ q with state := stateG q.l }, 0) := by unfold refLessG; rw [if_neg (fun h => by omega)]
      have d3 := cells_at (vs := q.cs a' c') hk3 rfl
      repeat (first | refine cg_seq ?_ | refine cg_region ?_ | refine eg_then ?_ | refine qsg ?_ | refine cg_cond_false rfl ?_ | refine cg_skip ?_)
      exact go _ _ _ ⟨q, a', c', k, Le.refl _, kb4, hle, hl', hsm, hk4, hq, rfl⟩ ⟨rfl, rfl, trivial⟩
    have z2 := of_decide_eq_true z2
    have d3 := cells_at (vs := q.cs a' c') hk3 rfl
    repeat (first | refine cg_seq ?_ | refine cg_region ?_ | refine qsg ?_ | refine cg_cond_true rfl ?_)
    refine rvh rfl rfl rfl rfl rfl rfl rfl hle (refRound_ct hl' hsm hgen) ?_
    rintro kB k5 _ hB1 hB2 hle5 hB3 ⟨a6, c6, rfl, h6⟩
    have kB3 : kB b3 = none := (hB2 _ _ hk3).trans kb3
    have kB4 : kB b4 = none := (hB2 _ _ hk4).trans kb4
    have h53 := hle5 _ _ hk3
    have h54 := hle5 _ _ hk4
    clear d3 hB2
    by_cases hgn : 1048576 ≤ q.gen
    · have hr : refRoundG q = (noG, 2) := by unfold refRoundG; rw [if_pos hgn]
      have hq : refLessG g q = (noG, 2) := by unfold refLessG; rw [if_pos ⟨z1, by omega⟩, if_pos hgn]
      rw [hr] at h6 ⊢
      rw [hq]
      repeat (first | refine qsp ?_)
      refine rb rfl rfl rfl rfl (a_alloc rfl) ?_; intro b6 k6 hb6 hN6 hle6 hk6
      refine rw1 (vs := noG.cs a6 c6) rfl rfl rfl rfl rfl rfl rfl hk6 rfl (.inl hN6) (by simp [Group.cs, Value.oneCell']) ?_
      intro k7 ht7 hk7
      have h74 := (ht7 k5 hle6 hb6) _ _ h54
      repeat (first | refine cg_seq ?_ | refine cg_region ?_ | refine rg_nil ?_ | refine eg_then ?_ | refine qsp ?_ | refine cg_cond_true rfl ?_)
      refine rs rfl rfl (loc_det rfl (d_lit (cells := noG.cs none 0) rfl rfl rfl)) ?_
      repeat (first | refine qsp ?_)
      refine rw1 (vs := noG.cs none 0) rfl rfl rfl rfl rfl rfl rfl h74 rfl (.inl hN4) (by simp [Group.cs, Value.oneCell']) ?_
      intro k8 ht8 hk8
      repeat (first | refine rg_nil ?_ | refine eg_then ?_ | refine qsp ?_ | refine cg_ret ?_ | refine eg_then_ret ?_)
      exact eg_returnC2 rfl rfl rfl rfl (cells_at (vs := noG.cs none 0) hk8 rfl) rfl ⟨none, 0, rfl, sl_nilM _⟩
    · have hr : refRoundG q = (roundG q, 0) := by unfold refRoundG; rw [if_neg hgn]
      have hq : refLessG g q = ({ roundG q with state := stateG (roundG q).l }, 0) := by unfold refLessG; rw [if_pos ⟨z1, by omega⟩, if_neg hgn]
      rw [hr] at h6 ⊢
      repeat (first | refine qsp ?_)
      refine rb rfl rfl rfl rfl (a_alloc rfl) ?_; intro b6 k6 hb6 hN6 hle6 hk6
      refine rw1 (vs := (roundG q).cs a6 c6) rfl rfl rfl rfl rfl rfl rfl hk6 rfl (.inl hN6) (by simp [Group.cs, Value.oneCell']) ?_
      intro k7 ht7 hk7
      have hle57 := ht7 k5 hle6 hb6
      have h74 := hle57 _ _ h54
      have h73 := hle57 _ _ h53
      have d6 := cells_at (vs := (roundG q).cs a6 c6) hk7 rfl
      repeat (first | refine cg_seq ?_ | refine cg_region ?_ | refine rg_nil ?_ | refine eg_then ?_ | refine qsp ?_ | refine qsg ?_ | refine cg_cond_false rfl ?_ | refine cg_skip ?_)
      refine rw1 (vs := (roundG q).cs a6 c6) rfl rfl rfl rfl rfl rfl rfl h73 rfl (.inl hN3) (by simp [Group.cs, Value.oneCell']) ?_
      intro k8 ht8 hk8
      have d8 := cells_at (vs := (roundG q).cs a6 c6) hk8 rfl
      repeat (first | refine cg_seq ?_ | refine cg_region ?_ | refine rg_nil ?_ | refine eg_then ?_ | refine qsg ?_)
      exact go _ _ _ ⟨roundG q, a6, c6, kB, hB1, kB4, ht8 kB (hB3.trans hle57) kB3, h6, smallG_round hsm, turn1_get ht8 (Ne.symm n34) h74, hq, rfl⟩ ⟨rfl, rfl, trivial⟩
  clear p2 q3 hk3 hk4 hle hl hl'
  rintro _ k5 ⟨y, a6, c6, kB, hB1, kB4, hB5, h6, hys, hk4, hq, rfl⟩
  rw [hq]
  skip
  refine rvh rfl rfl rfl rfl rfl rfl rfl hB5 (ct_of_new (copied_ctn h6 hys)) ?_
  rintro kC k6 _ hC1 hC2 hle6 hC3 ⟨a7, c7, rfl, h7⟩
  have kC4 : kC b4 = none := (hC2 _ _ hk4).trans kB4
  have hk64 := hle6 _ _ hk4
  clear hC2
  skip
  refine rvh rfl rfl rfl rfl rfl rfl rfl hC3 (settled_ct h7) ?_
  rintro kD k7 _ hD1 hD2 hle7 hD3 ⟨a8, c8, rfl, h8⟩
  have kD4 : kD b4 = none := (hD2 _ _ hk64).trans kC4
  have hk74 := hle7 _ _ hk64
  skip
  refine rw1 (vs := ({ y with state := stateG y.l } : Group).cs a8 c8) rfl rfl rfl rfl rfl rfl rfl hk74 rfl (.inl hN4) (by simp [Group.cs, Value.oneCell']) ?_
  intro k8 ht8 hk8
  repeat (first | refine rg_nil ?_ | refine eg_then ?_ | refine qsp ?_ | refine cg_ret ?_)
  exact eg_returnC2 rfl rfl rfl rfl (cells_at (vs := ({ y with state := stateG y.l } : Group).cs a8 c8) hk8 rfl) rfl ⟨a8, c8, rfl, h8.le (ht8 kD hD3 kD4)⟩
theorem refLess_is {g : Group} {l : List Member} (h : l.length < g.l.length) : refLessG g { g with l := l } = lessG g l := by
  have e : refLessG g { g with l := l } = if g.state = 2 ∧ 0 < l.length then (if 1048576 ≤ g.gen then (noG, 2) else ({ roundG { g with l := l } with state := stateG (roundG { g with l := l }).l }, 0)) else ({ g with l := l, state := stateG l }, 0) := rfl
  rw [e]
  unfold lessG
  by_cases h1 : g.state = 2 ∧ 0 < l.length
  · by_cases h2 : 1048576 ≤ g.gen
    · rw [if_pos h1, if_pos h2, if_pos ⟨h, h1.2, h1.1⟩, if_neg (by omega)]
    · rw [if_pos h1, if_neg h2, if_pos ⟨h, h1.2, h1.1⟩, if_pos (by omega)]; rfl
  · rw [if_neg h1, if_neg (fun hh => h1 ⟨hh.2.2, hh.2.1⟩)]
theorem smallG_sub {g : Group} {l : List Member} (h : SmallG g) (hs : l.Sublist g.l) : SmallG { g with l := l } := ⟨by have := hs.length_le; have := h.1; show l.length * 96 ≤ _; omega, fun y hy => h.2 y (hs.subset hy)⟩
theorem filter_del {id : ByteArray} {l : List Member} {i : Nat} (h : RightP ordId memOk l) (hi : i < l.length) (hid : l[i].id = id) : delN (i : Int) l = l.filter fun m => !decide (m.id = id) := by
  rw [delN_del hi]
  unfold delM
  have e : l = l.take i ++ l[i] :: l.drop (i + 1) := by rw [← List.drop_eq_getElem_cons hi, List.take_append_drop]
  have key : ∀ j, (hj : j < l.length) → l[j].id = id → j = i := fun j hj hh => by
    have := pos_at h hj hh
    have h2 := pos_at h hi hid
    omega
  have f1 : (l.take i).filter (fun m => !decide (m.id = id)) = l.take i := List.filter_eq_self.2 fun y hy => by
    obtain ⟨j, hj, rfl⟩ := List.getElem_of_mem hy
    rw [List.length_take] at hj
    rw [List.getElem_take, decide_eq_false (fun hh => by have := key j (by omega) hh; omega)]; rfl
  have f2 : (l.drop (i + 1)).filter (fun m => !decide (m.id = id)) = l.drop (i + 1) := List.filter_eq_self.2 fun y hy => by
    obtain ⟨j, hj, rfl⟩ := List.getElem_of_mem hy
    rw [List.length_drop] at hj
    rw [List.getElem_drop, decide_eq_false (fun hh => by have := key (i + 1 + j) (by omega) hh; omega)]; rfl
  have f3 : l.filter (fun m => !decide (m.id = id)) = (l.take i ++ l[i] :: l.drop (i + 1)).filter (fun m => !decide (m.id = id)) := by rw [← e]
  rw [f3, List.filter_append, List.filter_cons, f1, f2, decide_eq_true hid]; rfl
set_option maxHeartbeats 4000000 in
theorem refLeave_ct {k : PH} {g : Group} {a : Option Addr} {c : Nat} (hl : Sl tMember k a c g.l) (hok : g.ok) (hsm : SmallG g) (id : ByteArray) : CT Tryz.prog 14 #[.agg (g.cs a c).toArray, .string id] k (GrpV (leaveG g id)) := by
  refine ct_of_body (l := [_, _]) Tryz.func14 rfl Tryz.ntmps14 (by simp) GrpV.mono fun F hF0 hFm => ?_
  have b1 := hl.cap; have b2 := hl.max; unfold maxLen at b2
  repeat (first | refine cg_seq ?_ | refine cg_region ?_)
  refine rb rfl rfl rfl rfl (a_box rfl rfl) ?_; intro b2 k2 hb2 hN2 hle2 hk2
  refine rb rfl rfl rfl rfl (a_alloc rfl) ?_; intro b4 k4 hb4 hN4 hle4 hk4
  have d2 := (cells_at (vs := g.cs a c) hk2 rfl).le hle4
  have hl2 := hl.le hle2
  have hl4 := hl2.le hle4
  have k2b4 : k2 b4 = none := hb4
  unfold leaveG
  repeat (first | refine cg_seq ?_ | refine cg_region ?_ | refine rg_nil ?_ | refine eg_then ?_ | refine qsp ?_ | refine qsg ?_)
  refine rs rfl rfl (loc_call_is rfl rfl rfl rfl (refCheck_ct hl4 hok)) ?_
  repeat (first | refine cg_seq ?_ | refine cg_region ?_ | refine rg_nil ?_ | refine eg_then ?_ | refine qsp ?_)
  cases z0 : (chkG g != 0)
  case true =>
    have z0 : chkG g ≠ 0 := by simpa using z0
    rw [if_pos z0]
    repeat (first | refine cg_seq ?_ | refine cg_region ?_ | refine cg_cond_true rfl ?_)
    refine rs rfl rfl (loc_det rfl (d_lit (cells := noG.cs none 0) rfl rfl rfl)) ?_
    repeat (first | refine qsp ?_)
    refine rw1 (vs := noG.cs none 0) rfl rfl rfl rfl rfl rfl rfl hk4 rfl (.inl hN4) (by simp [Group.cs, Value.oneCell']) ?_
    intro k9 ht9 hk9
    repeat (first | refine rg_nil ?_ | refine eg_then ?_ | refine qsp ?_ | refine cg_ret ?_ | refine eg_then_ret ?_)
    exact eg_returnC2 rfl rfl rfl rfl (cells_at (vs := noG.cs none 0) hk9 rfl) rfl ⟨none, 0, rfl, sl_nilM _⟩
  have z0 : chkG g = 0 := by simpa using z0
  rw [if_neg (fun h => h z0)]
  have hr := chk_right z0
  repeat (first | refine cg_seq ?_ | refine cg_region ?_ | refine eg_then ?_ | refine qsp ?_ | refine qsg ?_ | refine cg_cond_false rfl ?_ | refine cg_skip ?_)
  refine rs rfl rfl (loc_call_is rfl rfl rfl rfl (refFind_ct hl4 id)) ?_
  repeat (first | refine cg_seq ?_ | refine cg_region ?_ | refine rg_nil ?_ | refine eg_then ?_ | refine qsp ?_)
  rcases idxF_cases g.l (fun m => decide (m.id = id)) with ⟨hx, hno⟩ | ⟨i, hlt, hx, hat, _⟩
  · have hno : hasId id g.l = false := hasId_false.2 fun y hy => by simpa using hno y hy
    rw [hx, if_pos hno]
    repeat (first | refine cg_seq ?_ | refine cg_region ?_ | refine cg_cond_true rfl ?_)
    refine rs rfl rfl (loc_det rfl (d_lit (cells := noG.cs none 0) rfl rfl rfl)) ?_
    skip
    refine rw1 (vs := noG.cs none 0) rfl rfl rfl rfl rfl rfl rfl hk4 rfl (.inl hN4) (by simp [Group.cs, Value.oneCell']) ?_
    intro k9 ht9 hk9
    repeat (first | refine rg_nil ?_ | refine eg_then ?_ | refine qsp ?_ | refine cg_ret ?_ | refine eg_then_ret ?_)
    exact eg_returnC2 rfl rfl rfl rfl (cells_at (vs := noG.cs none 0) hk9 rfl) rfl ⟨none, 0, rfl, sl_nilM _⟩
  have hid : g.l[i].id = id := by simpa using hat
  have hyes : hasId id g.l = true := hasId_true.2 ⟨g.l[i], List.getElem_mem hlt, hid⟩
  have hdl : (delN (i : Int) g.l).length < g.l.length := by
    show (g.l.eraseIdx i).length < _
    rw [List.length_eraseIdx, if_pos hlt]; omega
  rw [hx, if_neg (by rw [hyes]; decide), ← filter_del hr hlt hid, ← refLess_is hdl]
  repeat (first | refine cg_seq ?_ | refine eg_then ?_ | refine cg_cond_false rfl ?_ | refine cg_skip ?_)
  rw [show decide ((i : Int) < 0) = false from decide_eq_false (by omega)]
  skip
  refine cg_calls 7 (by kernel_rfl) (by kernel_rfl) rfl rfl ?_
  dsimp only [List.take]
  repeat (first | refine qcp ?_ | refine qcg ?_)
  refine wc_iv (φ := Lk k2 b4 (GrpA { g with l := delN (i : Int) g.l })) rfl (loci_lct (kq := k4) (h2 := k2) rfl rfl rfl rfl (Le.refl _) k2b4 hk4 (Le.refl _) hle4 (without_ct hl2 hsm.1 (i : Int))) rfl ?_
  skip
  refine wc_iv (φ := Lk k2 b4 (GrpV (refLessG g { g with l := delN (i : Int) g.l }))) rfl (LocI.elim 23 rfl (by kernel_rfl) Lk.mono fun v kz hkz ⟨k3, h1, h2, h3, a7, c7, e7, h7⟩ => by
    subst e7
    exact loci_lct (kq := k4) (h2 := k3) rfl rfl rfl rfl h1 h2 hk4 hkz h3 (refLess_ct (q := { g with l := delN (i : Int) g.l }) (hl2.le h1) h7 (smallG_sub hsm (delN_sub _ _)) hok.2.1)) rfl ?_
  generalize refLessG g { g with l := delN (i : Int) g.l } = q
  refine wc_iv (φ := Lk k2 b4 (GrpA q.1)) rfl (loci_pure (t := 24) rfl (by kernel_rfl) rfl Lk.mono fun v k1 _ ⟨k3, h1, h2, h3, a7, c7, e7, h7⟩ => by subst e7; exact ⟨_, rfl, k3, h1, h2, h3, a7, c7, rfl, h7⟩) rfl ?_
  refine wc_iv (φ := fun _ v => v = .int .i64 q.2) rfl (loci_pure (t := 24) rfl (by kernel_rfl) rfl (fun _ _ _ _ h => h) fun v k1 _ ⟨k3, h1, h2, h3, a7, c7, e7, h7⟩ => by subst e7; exact ⟨_, rfl, rfl⟩) rfl ?_
  refine wc_nil ?_
  intro k5 vs hle5 hvs
  obtain ⟨kC, hC1, kC4, hC3, a9, c9, ev, h9⟩ := hvs 25 _ rfl
  have e26 : vs 26 = .int .i64 q.2 := hvs 26 _ rfl
  clear hvs
  dsimp only [List.drop, set]
  simp only [nameE, nameP]
  rw [ev, e26]
  have hk5 := hle5 _ _ hk4
  refine rw1 (vs := q.1.cs a9 c9) rfl rfl rfl rfl rfl rfl rfl hk5 rfl (.inl hN4) (by simp [Group.cs, Value.oneCell']) ?_
  intro k6 ht6 hk6
  repeat (first | refine rg_nil ?_ | refine eg_then ?_ | refine qsp ?_ | refine cg_ret ?_)
  exact eg_returnC2 rfl rfl rfl rfl (cells_at (vs := q.1.cs a9 c9) hk6 rfl) rfl ⟨a9, c9, rfl, h9.le (ht6 kC hC3 kC4)⟩
end Go.Wm

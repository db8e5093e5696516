/-
  Whether a group may be, the program's. Conditions: that what is handed in reads as data.
-/
import Derived.Test.YtbhgbfhgdccghaaGreatN3
import Derived.Test.YtbhgbfhgdccghaaGreatP4
set_option linter.all false
namespace Go.Wm
open Go.RowKit Go.Proofs
theorem statics_succ {l : List Member} {i : Nat} (h : i < l.length) : statics (l.take (i + 1)) = statics (l.take i) ++ if l[i].static = ⟨#[]⟩ then [] else [l[i].static] := by
  unfold statics
  rw [List.take_succ_eq_append_getElem h, List.map_append, List.filter_append]
  congr 1
  by_cases hs : l[i].static = ⟨#[]⟩ <;> simp [hs]
theorem owns_succ {l : List Member} {i : Nat} (h : i < l.length) : owns (l.take (i + 1)) = owns (l.take i) ++ l[i].own := by
  unfold owns
  rw [List.take_succ_eq_append_getElem h, List.flatMap_append]; simp
theorem statics_no {l : List Member} : (⟨#[]⟩ : ByteArray) ∉ statics l := by
  unfold statics
  simp
theorem statics_sub {l : List Member} {i : Nat} (h : (statics l).Nodup) : (statics (l.take i)).Nodup := by
  have e : statics l = statics (l.take i) ++ statics (l.drop i) := by
    unfold statics
    rw [← List.filter_append, ← List.map_append, List.take_append_drop]
  rw [e] at h
  exact (List.nodup_append.1 h).1
theorem owns_sub {l : List Member} {i : Nat} (h : (owns l).Nodup) : (owns (l.take i)).Nodup := by
  have e : owns l = owns (l.take i) ++ owns (l.drop i) := by
    unfold owns
    rw [← List.flatMap_append, List.take_append_drop]
  rw [e] at h
  exact (List.nodup_append.1 h).1
abbrev encS : ByteArray → Value := fun x => Value.string x
abbrev encT : Tp → Value := fun x => Value.agg x.vs.toArray
/-- The map of Statics behind a member. -/
structure StayAt (k : PH) (rs : Nat) (l : List Member) (i : Nat) (s : ByteArray) (n : Int) : Prop where
  map : ∃ es cl, k rs = some (.map (es.map (toE encS)).toArray cl) ∧ atE s (.int .i64 0) es = .int .i64 n ∧ (¬ n > 1 → es = onesE (statics (l.take (i + 1))) ∧ cl = (statics (l.take (i + 1))).length)
  twice : n > 1 → ¬ (statics (l.take (i + 1))).Nodup
  once : ¬ n > 1 → (statics (l.take (i + 1))).Nodup
attribute [local irreducible] RG CG EG WA Loc Det Alc CT Exit.then Exit.inBlock Code.wp bodyPost
set_option maxHeartbeats 8000000 in
theorem check_ct {k : PH} {g : Group} {a : Option Addr} {c : Nat} (hl : Sl tMember k a c g.l) (hok : g.ok) : CT Tryz.prog 22 #[.agg (g.cs a c).toArray] k (fun _ v => v = .int .i64 (chkG g)) := by
  obtain ⟨o1, o2, o3, _⟩ := hok
  refine ct_of_body (l := [_]) Tryz.func22 rfl Tryz.ntmps22 (by simp) (fun _ _ _ _ h => h) fun F hF0 hFm => ?_
  have b1 := hl.cap; have b2 := hl.max; unfold maxLen at b2
  repeat (first | refine cg_seq ?_ | refine cg_region ?_)
  refine rb rfl rfl rfl rfl (a_box rfl rfl) ?_; intro b1' k1 hb1 hN1 hle1 hk1
  have hl := hl.le hle1
  obtain ⟨p0, p1, p2, p3⟩ := Group.parts (cells_at (vs := g.cs a c) hk1 rfl)
  repeat (first | refine cg_seq ?_ | refine cg_region ?_ | refine rg_nil ?_ | refine eg_then ?_ | refine qsp ?_ | refine qsn ?_ | refine qsl ?_ | refine qsf ?_)
  cases q0 : decide ((g.l.length : Int) > 64)
  case true =>
    have h64 : 64 < g.l.length := by have := of_decide_eq_true q0; omega
    repeat (first | refine cg_seq ?_ | refine cg_region ?_ | refine rg_nil ?_ | refine eg_then ?_ | refine qsp ?_ | refine cg_cond_true rfl ?_ | refine cg_ret ?_ | refine eg_then_ret ?_)
    refine eg_return rfl rfl ?_
    unfold chkG; rw [if_pos h64]
  have h64 : ¬ 64 < g.l.length := by have := of_decide_eq_false q0; omega
  have bad : ¬ (isName g.name = true ∧ 0 ≤ g.gen ∧ g.gen ≤ 1048576 ∧ g.state = stateG g.l ∧ RightP ordId memOk g.l) → Value.int .i64 1 = .int .i64 (chkG g) := fun h => by unfold chkG; rw [if_neg h64, if_pos h]
  repeat (first | refine cg_seq ?_ | refine eg_then ?_ | refine cg_cond_false rfl ?_ | refine cg_skip ?_)
  refine cg_any (by kernel_rfl) rfl ?_
  repeat (first | refine qwl ?_ | refine qwf ?_)
  refine ws rfl (loc_call_is rfl rfl rfl rfl (name_ct g.name o1)) ?_
  repeat (first | refine qwp ?_)
  cases q1 : isName g.name
  · repeat (first | refine qwp ?_ | refine qwo ?_ | (refine wn rfl ?_; refine eg_then ?_))
    repeat (first | refine cg_seq ?_ | refine cg_region ?_ | refine rg_nil ?_ | refine eg_then ?_ | refine qsp ?_ | refine cg_cond_true rfl ?_ | refine cg_ret ?_ | refine eg_then_ret ?_)
    exact eg_return rfl rfl (bad fun h => by rw [h.1] at q1; cases q1)
  repeat (first | refine qwp ?_ | refine qwl ?_ | refine qwf ?_)
  cases q2 : decide (g.gen < 0)
  case true =>
    repeat (first | refine qwp ?_ | refine qwo ?_ | (refine wn rfl ?_; refine eg_then ?_))
    repeat (first | refine cg_seq ?_ | refine cg_region ?_ | refine rg_nil ?_ | refine eg_then ?_ | refine qsp ?_ | refine cg_cond_true rfl ?_ | refine cg_ret ?_ | refine eg_then_ret ?_)
    exact eg_return rfl rfl (bad fun h => by have := of_decide_eq_true q2; omega)
  repeat (first | refine qwp ?_ | refine qwl ?_ | refine qwf ?_)
  cases q3 : decide (g.gen > 1048576)
  case true =>
    repeat (first | refine qwp ?_ | refine qwo ?_ | (refine wn rfl ?_; refine eg_then ?_))
    repeat (first | refine cg_seq ?_ | refine cg_region ?_ | refine rg_nil ?_ | refine eg_then ?_ | refine qsp ?_ | refine cg_cond_true rfl ?_ | refine cg_ret ?_ | refine eg_then_ret ?_)
    exact eg_return rfl rfl (bad fun h => by have := of_decide_eq_true q3; omega)
  repeat (first | refine qwl ?_ | refine qwf ?_)
  refine ws rfl (loc_call_is rfl rfl rfl rfl (state_ct hl)) ?_
  repeat (first | refine qwp ?_)
  cases q4 : (g.state != stateG g.l)
  case true =>
    repeat (first | refine qwp ?_ | refine qwo ?_ | (refine wn rfl ?_; refine eg_then ?_))
    repeat (first | refine cg_seq ?_ | refine cg_region ?_ | refine rg_nil ?_ | refine eg_then ?_ | refine qsp ?_ | refine cg_cond_true rfl ?_ | refine cg_ret ?_ | refine eg_then_ret ?_)
    exact eg_return rfl rfl (bad fun h => by rw [h.2.2.2.1] at q4; simp at q4)
  repeat (first | refine qwl ?_ | refine qwf ?_)
  refine ws rfl (loc_call_is rfl rfl rfl rfl (riseMem_ct hl)) ?_
  repeat (first | refine qwp ?_ | (refine wn rfl ?_; refine eg_then ?_))
  cases q5 : decide (RightP ordId memOk g.l)
  · skip
    repeat (first | refine cg_seq ?_ | refine cg_region ?_ | refine rg_nil ?_ | refine eg_then ?_ | refine qsp ?_ | refine cg_cond_true rfl ?_ | refine cg_ret ?_ | refine eg_then_ret ?_)
    exact eg_return rfl rfl (bad fun h => of_decide_eq_false q5 h.2.2.2.2)
  skip
  have good : isName g.name = true ∧ 0 ≤ g.gen ∧ g.gen ≤ 1048576 ∧ g.state = stateG g.l ∧ RightP ordId memOk g.l := ⟨q1, by have := of_decide_eq_false q2; omega, by have := of_decide_eq_false q3; omega, by simpa using q4, of_decide_eq_true q5⟩
  have two : ¬ ((statics g.l).Nodup ∧ (owns g.l).Nodup) → Value.int .i64 1 = .int .i64 (chkG g) := fun h => by unfold chkG; rw [if_neg h64, if_neg (fun hh => hh good), if_pos h]
  have fine : (statics g.l).Nodup ∧ (owns g.l).Nodup → Value.int .i64 0 = .int .i64 (chkG g) := fun h => by unfold chkG; rw [if_neg h64, if_neg (fun hh => hh good), if_neg (fun hh => hh h)]
  repeat (first | refine cg_seq ?_ | refine cg_region ?_ | refine eg_then ?_ | refine cg_cond_false rfl ?_ | refine cg_skip ?_)
  refine rb rfl rfl rfl rfl (a_makeMap rfl) ?_; intro ms k2 hrs hNrs hle2 hkrs
  refine rb rfl rfl rfl rfl (a_makeMap rfl) ?_; intro mo k3 hro hNro hle3 hkro
  have hne : mo ≠ ms := fun e => by rw [e, hkrs] at hro; cases hro
  have hkrs3 := hle3 _ _ hkrs
  obtain ⟨p0, p1, p2, p3⟩ := Group.parts ((cells_at (vs := g.cs a c) hk1 rfl).le (hle2.trans hle3))
  have hro1 : k1 mo = none := by
    cases e : k1 mo with
    | none => rfl
    | some ob => rw [hle2 _ _ e] at hro; cases hro
  repeat (first | refine cg_seq ?_ | refine cg_region ?_ | refine rg_nil ?_ | refine eg_then ?_ | refine qsp ?_ | refine qsn ?_ | refine qsl ?_ | refine qsf ?_ | refine cg_block ?_)
  refine cg_loop (fun (i : Nat) e k' => Le k1 k' ∧ k' ms = some (.map ((onesE (statics (g.l.take i))).map (toE encS)).toArray (statics (g.l.take i)).length) ∧ k' mo = some (.map ((onesE (owns (g.l.take i))).map (toE encT)).toArray (owns (g.l.take i)).length) ∧ i ≤ g.l.length ∧ (statics (g.l.take i)).Nodup ∧ (owns (g.l.take i)).Nodup ∧
      e = [(3, .is (.map (some ms))), (4, .is (.map (some mo))), (44, .is (.slice a g.l.length c)), (45, .is (.int .i64 (g.l.length : Int))), (46, .is (.int .i64 (i : Int)))])
    (fun i => g.l.length - i) 0 ⟨hle2.trans hle3, by simpa [onesE, statics] using hkrs3, by simpa [onesE, owns] using hkro, Nat.zero_le _, by simp [statics], by simp [owns], rfl⟩ ⟨rfl, rfl, rfl, rfl, rfl, trivial⟩ ?_
  rintro i e k4 ⟨hle4, hks4, hko4, hi, hnd1, hnd2, rfl⟩
  repeat (first | refine cg_seq ?_ | refine cg_region ?_ | refine rg_nil ?_ | refine eg_then ?_ | refine qsp ?_)
  refine cg_cond rfl (fun h => ?_) (fun h => ?_)
  rotate_left
  · have hil : i = g.l.length := by have := of_decide_eq_false h; omega
    rw [hil, List.take_length] at hnd1 hnd2
    repeat (first | refine cg_seq ?_ | refine cg_region ?_ | refine rg_nil ?_ | refine eg_then ?_ | refine qsp ?_ | refine cg_ret ?_ | refine cg_exit ?_ | refine eg_then_exit ?_ | refine eg_in_exit ?_)
    exact eg_return rfl rfl (fine ⟨hnd1, hnd2⟩)
  have hlt : i < g.l.length := by have := of_decide_eq_true h; omega
  obtain ⟨bx, ox, cx, ea, ⟨a0, c0, a1, c1, rfl, ⟨hsub, hown⟩, hmok⟩, hcx⟩ := hl.el i g.l[i] (List.getElem?_eq_getElem hlt)
  have hcx := hcx.le hle4
  have hst := statics_succ hlt
  have hos := owns_succ hlt
  have hrepm : tMember.rep k4 (g.l[i].cs a0 c0 a1 c1) g.l[i] := tMember.mono hle4 ⟨a0, c0, a1, c1, rfl, ⟨hsub, hown⟩, hmok⟩
  obtain ⟨m, hm⟩ : ∃ m, g.l[i] = m := ⟨_, rfl⟩
  rw [hm] at hcx hsub hown hmok hst hos hrepm
  subst ea
  have d1 := hown.cap; have d2 := hown.max; unfold maxLen at d2
  repeat (first | refine cg_seq ?_ | refine cg_region ?_ | refine eg_then ?_ | refine qsi ?_ | refine qsg ?_ | refine cg_skip ?_ | refine cg_block ?_)
  refine rb rfl rfl rfl rfl (a_alloc rfl) ?_; intro b6 k6 hb6 hN6 hle6 hk6
  skip
  refine rw1 (vs := m.cs a0 c0 a1 c1) rfl rfl rfl rfl rfl rfl rfl hk6 rfl (.inl hN6) ?_ ?_
  · exact Member.one k4 _ m hrepm
  intro k7 ht7 hk7
  have hle7 : Le k4 k7 := ht7 k4 hle6 hb6
  have hks7 := hle7 _ _ hks4
  have hko7 := hle7 _ _ hko4
  have n6s : ms ≠ b6 := fun e => by rw [← e, hks4] at hb6; cases hb6
  have n6o : mo ≠ b6 := fun e => by rw [← e, hko4] at hb6; cases hb6
  obtain ⟨y0, y1, y2, y3, y4, y5⟩ := Member.parts (cells_at (vs := m.cs a0 c0 a1 c1) hk7 rfl)
  have hle47 := hle4.trans hle7
  have hlo : i < g.l.length := hlt
  clear hcx hk6 ht7
  have hrs1 : k1 ms = none := hrs
  repeat (first | refine cg_seq ?_ | refine cg_region ?_ | refine rg_nil ?_ | refine eg_then ?_ | refine qsp ?_ | refine qsl ?_ | refine qsf ?_)
  refine cg_join (fun e' k' => e' = [(3, .is (.map (some ms))), (4, .is (.map (some mo))), (6, .is (.pointer (some ⟨b6, 0, none⟩))), (44, .is (.slice (some ⟨bx, ox, none⟩) g.l.length c)), (45, .is (.int .i64 (g.l.length : Int))), (46, .is (.int .i64 (i : Int)))] ∧ ∃ n, Le k1 k' ∧ k' b6 = some (.cells (m.cs a0 c0 a1 c1).toArray 44 (0, 0)) ∧ k' mo = k7 mo ∧ StayAt k' ms g.l i m.static n) ?_ ?_
  · refine cg_cond rfl (fun h2 => ?_) (fun h2 => ?_)
    rotate_left
    · have hse : m.static = ⟨#[]⟩ := by simpa using h2
      rw [if_pos hse, List.append_nil] at hst
      repeat (first | refine cg_skip ?_)
      refine eg_join _ ⟨rfl, 0, hle47, hk7, rfl, ⟨_, _, hks7, ?_, fun _ => by rw [hst]; exact ⟨rfl, rfl⟩⟩, fun h => by omega, fun _ => by rw [hst]; exact hnd1⟩ ⟨rfl, rfl, rfl, rfl, rfl, rfl, trivial⟩
      rw [hse]
      exact at_none statics_no _
    have hse : m.static ≠ ⟨#[]⟩ := by simpa using h2
    rw [if_neg hse] at hst
    generalize statics (g.l.take i) = ss at hks7 hnd1 hst
    repeat (first | refine cg_region ?_ | refine qsp ?_ | refine qsl ?_ | refine qsf ?_)
    by_cases hmem : m.static ∈ ss
    · obtain ⟨j, hj1, hj2⟩ := ones_some hmem
      have hag := ones_upd_again hj1 hj2 (.int .i64 0)
      refine rs rfl rfl (loc_det rfl (d_lookup (enc := encS) (x := m.static) rfl rfl rfl hks7)) ?_
      rw [at_some hj1]
      repeat (first | refine qsa ?_)
      refine r_update (enc := encS) (x := m.static) rfl rfl rfl rfl rfl rfl rfl hks7 hNrs ?_
      rw [show Value.int .i64 ((1 : Int) + 1) = .int .i64 2 from rfl, hag.1]
      repeat (first | refine rg_nil ?_)
      refine eg_join _ ⟨rfl, 2, hle47.upd hrs1, (upd_other (Ne.symm n6s)).trans hk7, upd_other hne, ⟨_, _, upd_same _ _ _, hag.2, fun h => absurd (by decide) h⟩, fun _ hn => ?_, fun h => absurd (by decide) h⟩ ⟨rfl, rfl, rfl, rfl, rfl, rfl, trivial⟩
      rw [hst] at hn
      exact (List.nodup_append.1 hn).2.2 _ hmem _ (by simp) rfl
    · have hup := ones_upd_new hmem
      refine rs rfl rfl (loc_det rfl (d_lookup (enc := encS) (x := m.static) rfl rfl rfl hks7)) ?_
      rw [at_none hmem]
      repeat (first | refine qsa ?_)
      refine r_update (enc := encS) (x := m.static) rfl rfl rfl rfl rfl rfl rfl hks7 hNrs ?_
      rw [show Value.int .i64 ((0 : Int) + 1) = .int .i64 1 from rfl, hup]
      have hnd : (statics (g.l.take (i + 1))).Nodup := by
        rw [hst]
        exact List.nodup_append.2 ⟨hnd1, by simp, fun x hx y hy => by simp at hy; subst hy; rintro rfl; exact hmem hx⟩
      repeat (first | refine rg_nil ?_)
      refine eg_join _ ⟨rfl, 1, hle47.upd hrs1, (upd_other (Ne.symm n6s)).trans hk7, upd_other hne, ⟨_, _, upd_same _ _ _, ?_, fun _ => by rw [hst]; exact ⟨rfl, by simp⟩⟩, fun h => by omega, fun _ => hnd⟩ ⟨rfl, rfl, rfl, rfl, rfl, rfl, trivial⟩
      obtain ⟨j, hj1, _⟩ := ones_some (l := ss ++ [m.static]) (x := m.static) (by simp)
      exact at_some hj1 _
  rintro _ k8 ⟨rfl, n, hle8, hk8, hko8, hstay⟩
  obtain ⟨⟨es, cl, hks8, hat, hone⟩, htw, hon⟩ := hstay
  rw [hko7] at hko8
  generalize owns (g.l.take i) = os at hko8 hnd2 hos
  obtain ⟨y0, y1, y2, y3, y4, y5⟩ := Member.parts (cells_at (vs := m.cs a0 c0 a1 c1) hk8 rfl)
  have hown1 : ∀ k', Le k1 k' → Sl tTp k' a1 c1 m.own := fun k' h => hown.le h
  repeat (first | refine cg_seq ?_ | refine cg_region ?_ | refine rg_nil ?_ | refine eg_then ?_ | refine qsp ?_ | refine qsn ?_ | refine qsl ?_ | refine qsf ?_ | refine cg_block ?_)
  refine cg_loop (fun (j : Nat) e k' => Le k1 k' ∧ k' b6 = some (.cells (m.cs a0 c0 a1 c1).toArray 44 (0, 0)) ∧ k' ms = some (.map (es.map (toE encS)).toArray cl) ∧ k' mo = some (.map ((onesE (os ++ m.own.take j)).map (toE encT)).toArray (os ++ m.own.take j).length) ∧ j ≤ m.own.length ∧ (os ++ m.own.take j).Nodup ∧
      e = [(3, .is (.map (some ms))), (4, .is (.map (some mo))), (6, .is (.pointer (some ⟨b6, 0, none⟩))), (44, .is (.slice (some ⟨bx, ox, none⟩) g.l.length c)), (45, .is (.int .i64 (g.l.length : Int))), (46, .is (.int .i64 (i : Int))), (59, .is (.slice a1 m.own.length c1)), (60, .is (.int .i64 (m.own.length : Int))), (61, .is (.int .i64 (j : Int)))])
    (fun j => m.own.length - j) 0 ⟨hle8, hk8, hks8, by simpa using hko8, Nat.zero_le _, by simpa using hnd2, rfl⟩ ⟨rfl, rfl, rfl, rfl, rfl, rfl, rfl, rfl, rfl, trivial⟩ ?_
  rintro j e k9 ⟨hle9, hk9, hks9, hko9, hj, hnd9, rfl⟩
  repeat (first | refine cg_seq ?_ | refine cg_region ?_ | refine rg_nil ?_ | refine eg_then ?_ | refine qsp ?_)
  refine cg_cond rfl (fun h3 => ?_) (fun h3 => ?_)
  rotate_left
  · have hjl : j = m.own.length := by have := of_decide_eq_false h3; omega
    rw [hjl, List.take_length, ← hos] at hko9 hnd9
    obtain ⟨y0, y1, y2, y3, y4, y5⟩ := Member.parts (cells_at (vs := m.cs a0 c0 a1 c1) hk9 rfl)
    repeat (first | refine cg_seq ?_ | refine cg_region ?_ | refine eg_then ?_ | refine qsp ?_ | refine qsl ?_ | refine qsf ?_ | refine cg_exit ?_ | refine eg_then_exit ?_ | refine eg_in_exit ?_)
    refine rs rfl rfl (loc_det rfl (d_lookup (enc := encS) (x := m.static) rfl rfl rfl hks9)) ?_
    rw [hat]
    repeat (first | refine rg_nil ?_ | refine eg_then ?_ | refine qsp ?_)
    refine cg_cond rfl (fun h4 => ?_) (fun h4 => ?_)
    · have hn := of_decide_eq_true h4
      repeat (first | refine cg_seq ?_ | refine cg_region ?_ | refine rg_nil ?_ | refine eg_then ?_ | refine qsp ?_ | refine cg_ret ?_ | refine eg_then_ret ?_ | refine eg_in_ret ?_)
      exact eg_return rfl rfl (two fun hh => htw hn (statics_sub hh.1))
    have hn := of_decide_eq_false h4
    obtain ⟨he1, he2⟩ := hone hn
    rw [he1, he2] at hks9
    repeat (first | refine cg_region ?_ | refine rg_nil ?_ | refine eg_then ?_ | refine qsp ?_ | refine qsa ?_ | refine cg_skip ?_ | refine eg_in_normal ?_)
    exact eg_again (i + 1) _ ⟨hle9, hks9, hko9, hlt, hon hn, hnd9, rfl⟩ (by omega) ⟨rfl, rfl, rfl, rfl, rfl, trivial⟩
  have hjlt : j < m.own.length := by have := of_decide_eq_true h3; omega
  obtain ⟨by', oy, cy, rfl, ⟨rfl, hyok⟩, hcy⟩ := (hown1 k9 hle9).el j m.own[j] (List.getElem?_eq_getElem hjlt)
  have htk : os ++ m.own.take (j + 1) = (os ++ m.own.take j) ++ [m.own[j]] := by rw [List.take_succ_eq_append_getElem hjlt, List.append_assoc]
  have hin : m.own[j] ∈ os ++ m.own.take j → ¬ (owns g.l).Nodup := fun hmem hn => by
    have h5 := owns_sub (i := i + 1) hn
    rw [hos, ← List.take_append_drop (j + 1) m.own, ← List.append_assoc, htk] at h5
    have h6 := (List.nodup_append.1 h5).1
    exact (List.nodup_append.1 h6).2.2 _ hmem _ (by simp) rfl
  obtain ⟨tp, htp⟩ : ∃ tp, m.own[j] = tp := ⟨_, rfl⟩
  rw [htp] at hcy hyok htk hin
  generalize os ++ m.own.take j = L at hko9 hnd9 htk hin
  repeat (first | refine cg_seq ?_ | refine cg_region ?_ | refine eg_then ?_ | refine qsi ?_ | refine qsg ?_ | refine cg_skip ?_ | refine cg_block ?_)
  refine rb rfl rfl rfl rfl (a_alloc rfl) ?_; intro b10 k10 hb10 hN10 hle10 hk10
  refine rw1 rfl rfl rfl rfl rfl rfl rfl hk10 rfl (.inl hN10) ?_ ?_; (simp [Tp.vs, Member.cs, Group.cs, Value.oneCell']); intro k11 ht11 hk11
  have c11 := cells_at (vs := tp.vs) hk11 rfl
  have hle11 : Le k9 k11 := ht11 k9 hle10 hb10
  have hr11 := hle11 _ _ hko9
  have hks11 := hle11 _ _ hks9
  have hk11' := hle11 _ _ hk9
  have hbr : b10 ≠ mo := by rintro rfl; rw [hko9] at hb10; cases hb10
  repeat (first | refine cg_seq ?_ | refine rg_nil ?_ | refine eg_then ?_)
  have c5d := c11.del hbr
  by_cases hmem : tp ∈ L
  · obtain ⟨q, hj1, hj2⟩ := ones_some hmem
    have hag := ones_again hj1 hj2 (.int .i64 0)
    refine cg_eff mo _ (.map (((entE tp (.int .i64 0) (onesE L) L.length).1).map (toE encT)).toArray (entE tp (.int .i64 0) (onesE L) L.length).2.1) rfl (by kernel_rfl) (by kernel_rfl) rfl rfl hr11 hNro ?_
    dsimp only [List.dropLast]
    refine we_loc (loc_det rfl (d_pure rfl)) ?_
    refine we_loc (loc_det rfl (d_load_agg (vs := tp.vs) rfl rfl rfl rfl c5d)) ?_
    refine we_two (p := .is (.int .i64 1)) (li_lookup (enc := encT) (x := tp) rfl rfl rfl rfl (fun _ w hw => ⟨_, _, hw.1, at_some hj1 _⟩)) (li_lookup (enc := encT) (x := tp) rfl rfl rfl rfl (fun _ w hw => by obtain ⟨_, hw⟩ := hw; exact ⟨_, _, hw.1, by rw [hag.1]; exact at_some hj1 _⟩)) ?_
    refine we_loc (loc_det rfl (d_add rfl rfl rfl (by omega) (by omega))) ?_
    refine we_eff (eff_entry (enc := encT) (x := tp) rfl rfl rfl rfl hNro) ?_
    refine we_loc (loc_det rfl (d_pure rfl)) ?_
    refine we_nil ⟨rfl, ?_⟩
    rw [hag.1]
    refine r_entryStore (enc := encT) rfl rfl rfl rfl rfl rfl rfl (upd_same _ _ _) (ones_mem (by have := (List.getElem?_eq_some_iff.1 hj2).1; exact this)) hNro ?_
    rw [upd_upd]
    have hk7 := upd_same k11 mo (.map ((putE q (.int .i64 (1 + 1)) (onesE L)).map (toE encT)).toArray L.length)
    have c7 : Cells (upd k11 mo (.map ((putE q (.int .i64 (1 + 1)) (onesE L)).map (toE encT)).toArray L.length)) b10 0 tp.vs := by obtain ⟨c0', et, fr, h1, h2⟩ := c11; exact ⟨c0', et, fr, by rw [upd_other hbr]; exact h1, h2⟩
    generalize upd k11 mo (.map ((putE q (.int .i64 (1 + 1)) (onesE L)).map (toE encT)).toArray L.length) = k12 at hk7 c7 ⊢
    repeat (first | refine cg_seq ?_ | refine cg_region ?_ | refine rg_nil ?_ | refine eg_then ?_ | refine qsp ?_ | refine qsg ?_)
    refine rs rfl rfl (loc_det rfl (d_lookup (enc := encT) (x := tp) rfl rfl rfl hk7)) ?_
    rw [show atE tp (.int .i64 0) (putE q (.int .i64 (1 + 1)) (onesE L)) = .int .i64 2 from hag.2]
    repeat (first | refine cg_seq ?_ | refine cg_region ?_ | refine rg_nil ?_ | refine eg_then ?_ | refine qsp ?_ | refine cg_cond_true rfl ?_ | refine cg_ret ?_ | refine eg_then_ret ?_ | refine eg_in_ret ?_)
    exact eg_return rfl rfl (two fun hh => hin hmem hh.2)
  have hnd2 : (L ++ [tp]).Nodup := List.nodup_append.2 ⟨hnd9, by simp, fun x hx y hy => by simp at hy; subst hy; rintro rfl; exact hmem hx⟩
  refine cg_eff mo _ (.map (((entE tp (.int .i64 0) (onesE L) L.length).1).map (toE encT)).toArray (entE tp (.int .i64 0) (onesE L) L.length).2.1) rfl (by kernel_rfl) (by kernel_rfl) rfl rfl hr11 hNro ?_
  dsimp only [List.dropLast]
  have hent := ones_ent_new hmem (.int .i64 0)
  have hput := ones_put_new (l := L) tp (.int .i64 0)
  refine we_loc (loc_det rfl (d_pure rfl)) ?_
  refine we_loc (loc_det rfl (d_load_agg (vs := tp.vs) rfl rfl rfl rfl c5d)) ?_
  refine we_two (p := .is (.int .i64 0)) (li_lookup (enc := encT) (x := tp) rfl rfl rfl rfl (fun _ w hw => ⟨_, _, hw.1, at_none hmem _⟩)) (li_lookup (enc := encT) (x := tp) rfl rfl rfl rfl (fun _ w hw => by obtain ⟨_, hw⟩ := hw; exact ⟨_, _, hw.1, by rw [hent]; exact at_new hmem _ _⟩)) ?_
  refine we_loc (loc_det rfl (d_add rfl rfl rfl (by omega) (by omega))) ?_
  refine we_eff (eff_entry (enc := encT) (x := tp) rfl rfl rfl rfl hNro) ?_
  refine we_loc (loc_det rfl (d_pure rfl)) ?_
  refine we_nil ⟨rfl, ?_⟩
  rw [hent]
  refine r_entryStore (enc := encT) rfl rfl rfl rfl rfl rfl rfl (upd_same _ _ _) ⟨(tp, .int .i64 0, L.length), by simp, rfl⟩ hNro ?_
  rw [upd_upd, show putE L.length (.int .i64 (0 + 1)) (onesE L ++ [(tp, .int .i64 0, L.length)]) = onesE (L ++ [tp]) from hput]
  have hle12 : Le k1 (upd k11 mo (.map ((onesE (L ++ [tp])).map (toE encT)).toArray (L.length + 1))) := (hle9.trans hle11).upd hro1
  have hk7 := upd_same k11 mo (.map ((onesE (L ++ [tp])).map (toE encT)).toArray (L.length + 1))
  have hs12 := (upd_other (o := .map ((onesE (L ++ [tp])).map (toE encT)).toArray (L.length + 1)) (Ne.symm hne)).trans hks11
  have h612 := (upd_other (o := .map ((onesE (L ++ [tp])).map (toE encT)).toArray (L.length + 1)) (Ne.symm n6o)).trans hk11'
  have c7 : Cells (upd k11 mo (.map ((onesE (L ++ [tp])).map (toE encT)).toArray (L.length + 1))) b10 0 tp.vs := by obtain ⟨c0', et, fr, h1, h2⟩ := c11; exact ⟨c0', et, fr, by rw [upd_other hbr]; exact h1, h2⟩
  generalize upd k11 mo (.map ((onesE (L ++ [tp])).map (toE encT)).toArray (L.length + 1)) = k12 at hk7 hle12 hs12 h612 c7 ⊢
  repeat (first | refine cg_seq ?_ | refine cg_region ?_ | refine rg_nil ?_ | refine eg_then ?_ | refine qsp ?_ | refine qsg ?_)
  refine rs rfl rfl (loc_det rfl (d_lookup (enc := encT) (x := tp) rfl rfl rfl hk7)) ?_
  have hone1 : atE tp (.int .i64 0) (onesE (L ++ [tp])) = .int .i64 1 := by
    obtain ⟨q, hq1, _⟩ := ones_some (l := L ++ [tp]) (x := tp) (by simp)
    exact at_some hq1 _
  rw [hone1]
  repeat (first | refine cg_region ?_ | refine rg_nil ?_ | refine eg_then ?_ | refine qsp ?_ | refine qsa ?_ | refine cg_cond_false rfl ?_ | refine cg_skip ?_ | refine eg_in_normal ?_)
  refine eg_again (j + 1) _ ⟨hle12, h612, hs12, ?_, hjlt, by rw [htk]; exact hnd2, rfl⟩ (by omega) ⟨rfl, rfl, rfl, rfl, rfl, rfl, rfl, rfl, rfl, trivial⟩
  rw [htk, hk7]; simp
end Go.Wm

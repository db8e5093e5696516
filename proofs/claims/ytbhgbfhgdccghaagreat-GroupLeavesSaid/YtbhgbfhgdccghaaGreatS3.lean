/-
  The document's Tick. Conditions: that what is handed in reads as data.
-/
import Derived.Test.YtbhgbfhgdccghaaGreatS2
set_option linter.all false
namespace Go.Wm
open Go.RowKit Go.Proofs
theorem filter_take_succ {α : Type} {p : α → Bool} {l : List α} {i : Nat} (hi : i < l.length) : (l.take (i + 1)).filter p = (l.take i).filter p ++ if p l[i] = true then [l[i]] else [] := by
  rw [List.take_succ_eq_append_getElem hi, List.filter_append]
  congr 1
  by_cases h : p l[i] = true <;> simp [h]
attribute [local irreducible] RG CG EG WA Loc Det Alc CT Exit.then Exit.inBlock Code.wp bodyPost
set_option maxHeartbeats 4000000 in
theorem refTick_ct {k : PH} {g : Group} {a : Option Addr} {c : Nat} (hl : Sl tMember k a c g.l) (hok : g.ok) (hsm : SmallG g) (now most : Int) : CT Tryz.prog 16 #[.agg (g.cs a c).toArray, .int .i64 now, .int .i64 most] k (GrpV (tickG g now most)) := by
  refine ct_of_body (l := [_, _, _]) Tryz.func16 rfl Tryz.ntmps16 (by simp) GrpV.mono fun F hF0 hFm => ?_
  have b1 := hl.cap; have b2 := hl.max; unfold maxLen at b2
  repeat (first | refine cg_seq ?_ | refine cg_region ?_)
  refine rb rfl rfl rfl rfl (a_box rfl rfl) ?_; intro b3 k3 hb3 hN3 hle3 hk3
  refine rb rfl rfl rfl rfl (a_alloc rfl) ?_; intro b6 k6 hb6 hN6 hle6 hk6
  have d3 := (cells_at (vs := g.cs a c) hk3 rfl).le hle6
  have hl3 := hl.le hle3
  have hl6 := hl3.le hle6
  have k3b6 : k3 b6 = none := hb6
  unfold tickG
  repeat (first | refine cg_seq ?_ | refine cg_region ?_ | refine rg_nil ?_ | refine eg_then ?_ | refine qsp ?_ | refine qsg ?_)
  refine rs rfl rfl (loc_call_is rfl rfl rfl rfl (refCheck_ct hl6 hok)) ?_
  repeat (first | refine cg_seq ?_ | refine cg_region ?_ | refine rg_nil ?_ | refine eg_then ?_ | refine qsp ?_)
  cases z0 : (chkG g != 0)
  case true =>
    have z0 : chkG g ≠ 0 := by simpa using z0
    rw [if_pos z0]
    repeat (first | refine cg_seq ?_ | refine cg_region ?_ | refine cg_cond_true rfl ?_)
    refine rs rfl rfl (loc_det rfl (d_lit (cells := noG.cs none 0) rfl rfl rfl)) ?_
    repeat (first | refine qsp ?_)
    refine rw1 (vs := noG.cs none 0) rfl rfl rfl rfl rfl rfl rfl hk6 rfl (.inl hN6) (by simp [Group.cs, Value.oneCell']) ?_
    intro k9 ht9 hk9
    repeat (first | refine rg_nil ?_ | refine eg_then ?_ | refine qsp ?_ | refine cg_ret ?_ | refine eg_then_ret ?_)
    exact eg_returnC2 rfl rfl rfl rfl (cells_at (vs := noG.cs none 0) hk9 rfl) rfl ⟨none, 0, rfl, sl_nilM _⟩
  have z0 : chkG g = 0 := by simpa using z0
  rw [if_neg (fun h => h z0)]
  have hck := chk_all z0
  repeat (first | refine cg_seq ?_ | refine cg_region ?_ | refine eg_then ?_ | refine qsp ?_ | refine cg_cond_false rfl ?_ | refine cg_skip ?_)
  refine rs rfl rfl (loc_call_is rfl rfl rfl rfl (in_ct now)) ?_
  cases z1 : timeOk now
  · rw [if_pos (show (false && timeOk most) = false from rfl)]
    repeat (first | refine cg_seq ?_ | refine cg_region ?_ | refine rg_nil ?_ | refine eg_then ?_ | refine qsp ?_ | refine qso ?_ | refine cg_cond_true rfl ?_)
    refine rs rfl rfl (loc_det rfl (d_lit (cells := noG.cs none 0) rfl rfl rfl)) ?_
    skip
    refine rw1 (vs := noG.cs none 0) rfl rfl rfl rfl rfl rfl rfl hk6 rfl (.inl hN6) (by simp [Group.cs, Value.oneCell']) ?_
    intro k9 ht9 hk9
    repeat (first | refine rg_nil ?_ | refine eg_then ?_ | refine qsp ?_ | refine cg_ret ?_ | refine eg_then_ret ?_)
    exact eg_returnC2 rfl rfl rfl rfl (cells_at (vs := noG.cs none 0) hk9 rfl) rfl ⟨none, 0, rfl, sl_nilM _⟩
  repeat (first | refine qsp ?_)
  refine rs rfl rfl (loc_call_is rfl rfl rfl rfl (in_ct most)) ?_
  cases z2 : timeOk most
  · rw [if_pos (show (true && false) = false from rfl)]
    repeat (first | refine cg_seq ?_ | refine cg_region ?_ | refine rg_nil ?_ | refine eg_then ?_ | refine qsp ?_ | refine cg_cond_true rfl ?_)
    refine rs rfl rfl (loc_det rfl (d_lit (cells := noG.cs none 0) rfl rfl rfl)) ?_
    skip
    refine rw1 (vs := noG.cs none 0) rfl rfl rfl rfl rfl rfl rfl hk6 rfl (.inl hN6) (by simp [Group.cs, Value.oneCell']) ?_
    intro k9 ht9 hk9
    repeat (first | refine rg_nil ?_ | refine eg_then ?_ | refine qsp ?_ | refine cg_ret ?_ | refine eg_then_ret ?_)
    exact eg_returnC2 rfl rfl rfl rfl (cells_at (vs := noG.cs none 0) hk9 rfl) rfl ⟨none, 0, rfl, sl_nilM _⟩
  rw [if_neg (show ¬ (true && true) = false by decide)]
  have htn := z1
  have htm := z2
  unfold timeOk at z1 z2
  simp only [Bool.and_eq_true, decide_eq_true_eq] at z1 z2
  obtain ⟨u1, u2⟩ := z1
  obtain ⟨v1, v2⟩ := z2
  repeat (first | refine cg_seq ?_ | refine cg_region ?_ | refine rg_nil ?_ | refine eg_then ?_ | refine qsp ?_ | refine qsg ?_ | refine cg_cond_false rfl ?_ | refine cg_skip ?_)
  refine rb rfl rfl rfl rfl (a_alloc rfl) ?_; intro b9 k9 hb9 hN9 hle9 hk9
  refine rw1 (vs := g.cs a c) rfl rfl rfl rfl rfl rfl rfl hk9 rfl (.inl hN9) (by simp [Group.cs, Value.oneCell']) ?_
  intro k10 ht10 hk10
  have hle10 : Le k6 k10 := ht10 k6 hle9 hb9
  repeat (first | refine cg_seq ?_ | refine cg_region ?_ | refine rg_nil ?_ | refine eg_then ?_ | refine qsf ?_)
  refine rw0 rfl rfl rfl rfl rfl rfl rfl rfl hk10 (by show _ < 4; omega) (.inl hN9) ?_; intro k11 ht11 hk11
  have hle11 : Le k6 k11 := ht11 k6 hle10 hb9
  have hk11 : k11 b9 = some (.cells (gV g (.slice none 0 0)).toArray 24 (0, 0)) := hk11
  have hk116 := hle11 _ _ hk6
  have n69 : b6 ≠ b9 := fun e => by rw [e, hb9] at hk6; cases hk6
  have k3b9 : k3 b9 = none := by
    cases hc : k3 b9 with
    | none => rfl
    | some ob => have := hle6 _ _ hc; rw [hb9] at this; cases this
  clear ht10 ht11 hk9 hk10 hle10 d3
  obtain ⟨_, _, _, p3'⟩ := Group.parts (cells_at (vs := g.cs a c) hk3 rfl)
  repeat (first | refine cg_seq ?_ | refine cg_region ?_ | refine rg_nil ?_ | refine eg_then ?_ | refine qsp ?_ | refine cg_block ?_)
  refine cg_loop (fun (i : Nat) e k' => ∃ v css, Le k3 k' ∧ Apart k3 v ∧ Pieces tMember k3 css ((g.l.take i).filter fun m => !lateM now most m) ∧ Row F.w0.heap.size k' 44 6 v ((g.l.take i).filter fun m => !lateM now most m).length css.flatten ∧ k' b6 = some (.cells (noG.cs none 0).toArray 24 (0, 0)) ∧ k' b9 = some (.cells (gV g v).toArray 24 (0, 0)) ∧ i ≤ g.l.length ∧
      e = [(1, .is (.int .i64 now)), (2, .is (.int .i64 most)), (3, .is (.pointer (some ⟨b3, 0, none⟩))), (6, .is (.pointer (some ⟨b6, 0, none⟩))), (9, .is (.pointer (some ⟨b9, 0, none⟩))), (10, .is (.int .i64 (i : Int)))])
    (fun i => g.l.length - i) 0 ⟨.slice none 0 0, [], hle6.trans hle11, apart_nil _ _ _, Pieces.nil _ _, row_nil _ _ _ _, hk116, hk11, Nat.zero_le _, rfl⟩ ⟨rfl, rfl, rfl, rfl, rfl, rfl, trivial⟩ ?_
  rintro i e k8 ⟨v, css, hle8, hap, hpc, hrow, hk86, hk89, hi, rfl⟩
  have p3 := p3'.le hle8
  have hfl := List.length_filter_le (fun m => !lateM now most m) (g.l.take i)
  have hti : (g.l.take i).length = i := by rw [List.length_take]; omega
  repeat (first | refine cg_seq ?_ | refine cg_region ?_ | refine rg_nil ?_ | refine eg_then ?_ | refine qsp ?_ | refine qsn ?_ | refine qsl ?_ | refine qsf ?_)
  refine cg_cond rfl (fun h => ?_) (fun h => ?_)
  rotate_left
  · have hil : i = g.l.length := by have := of_decide_eq_false h; omega
    rw [hil, List.take_length] at hpc hrow
    obtain ⟨l, hld⟩ : ∃ l, g.l.filter (fun m => !lateM now most m) = l := ⟨_, rfl⟩
    rw [hld] at hpc hrow ⊢
    have hsub : l.Sublist g.l := hld ▸ List.filter_sublist
    have hsl := hsub.length_le
    obtain ⟨a', c', rfl⟩ := row_sl hrow
    have c9 := (cells_at (vs := gV g (.slice a' l.length c')) hk89 rfl).one (i := 3) rfl
    repeat (first | refine cg_seq ?_ | refine cg_region ?_ | refine rg_nil ?_ | refine eg_then ?_ | refine qsp ?_ | refine qsn ?_ | refine qsl ?_ | refine qsf ?_ | refine cg_exit ?_ | refine eg_then_exit ?_ | refine eg_in_exit ?_)
    cases z5 : ((l.length : Int) == (g.l.length : Int))
    · have z5 : l.length ≠ g.l.length := by have : ¬ ((l.length : Int) = (g.l.length : Int)) := by simpa using z5
                                            omega
      rw [← refLess_is (g := g) (l := l) (by omega)]
      have d3 := (cells_at (vs := g.cs a c) hk3 rfl).le hle8
      have d9 := cells_at (vs := ({ g with l := l } : Group).cs a' c') hk89 rfl
      have hle8d : Le k3 (delB k8 b6) := le_delB hle8 k3b6
      have hrd : Row F.w0.heap.size (delB k8 b6) 44 6 (.slice a' l.length c') l.length css.flatten := hrow.at fun gg hgg => by
        have hne : gg ≠ b6 := fun e => hrow.owner1 hk86 (by decide) (by rw [← e]; exact hgg)
        unfold delB; rw [if_neg hne]
      have hsd : Sl tMember (delB k8 b6) a' c' l := GrpR.sl hpc hrd hle8d
      repeat (first | refine cg_seq ?_ | refine cg_region ?_ | refine eg_then ?_ | refine qsg ?_ | refine cg_cond_false rfl ?_ | refine cg_skip ?_)
      refine rvh rfl rfl rfl rfl rfl rfl rfl (delB_le _ _) (refLess_ct (q := { g with l := l }) (hl3.le hle8d) hsd (smallG_sub hsm hsub) hok.2.1) ?_
      rintro kB k12 _ hB1 hB2 hle12 hB3 ⟨a8, c8, rfl, h8⟩
      have kB6 : kB b6 = none := (hB2 _ _ hk86).trans (delB_own _ _)
      have hk126 := hle12 _ _ hk86
      generalize refLessG g { g with l := l } = q at h8 ⊢
      repeat (first | refine qsp ?_)
      refine rw1 (vs := q.1.cs a8 c8) rfl rfl rfl rfl rfl rfl rfl hk126 rfl (.inl hN6) (by simp [Group.cs, Value.oneCell']) ?_
      intro k13 ht13 hk13
      repeat (first | refine rg_nil ?_ | refine eg_then ?_ | refine qsp ?_ | refine cg_ret ?_)
      exact eg_returnC2 rfl rfl rfl rfl (cells_at (vs := q.1.cs a8 c8) hk13 rfl) rfl ⟨a8, c8, rfl, h8.le (ht13 kB hB3 kB6)⟩
    · have z5 : l.length = g.l.length := by have : ((l.length : Int) = (g.l.length : Int)) := by simpa using z5
                                            omega
      have hlg : l = g.l := hsub.eq_of_length z5
      rw [hlg, lessG_all hck]
      have d3 := (cells_at (vs := g.cs a c) hk3 rfl).le hle8
      repeat (first | refine cg_seq ?_ | refine cg_region ?_ | refine qsg ?_ | refine cg_cond_true rfl ?_)
      refine rvh rfl rfl rfl rfl rfl rfl rfl hle8 (ct_of_new (copied_ctn hl3 hsm)) ?_
      rintro kB k12 _ hB1 hB2 hle12 hB3 ⟨a8, c8, rfl, h8⟩
      have kB6 : kB b6 = none := (hB2 _ _ hk86).trans k3b6
      have hk126 := hle12 _ _ hk86
      skip
      refine rw1 (vs := g.cs a8 c8) rfl rfl rfl rfl rfl rfl rfl hk126 rfl (.inl hN6) (by simp [Group.cs, Value.oneCell']) ?_
      intro k13 ht13 hk13
      repeat (first | refine rg_nil ?_ | refine eg_then ?_ | refine qsp ?_ | refine cg_ret ?_ | refine eg_then_ret ?_)
      exact eg_returnC2 rfl rfl rfl rfl (cells_at (vs := g.cs a8 c8) hk13 rfl) rfl ⟨a8, c8, rfl, h8.le (ht13 kB hB3 kB6)⟩
  have hlt : i < g.l.length := by have := of_decide_eq_true h; omega
  have hfs : (g.l.take (i + 1)).filter (fun m => !lateM now most m) = (g.l.take i).filter (fun m => !lateM now most m) ++ if (!lateM now most g.l[i]) = true then [g.l[i]] else [] := filter_take_succ hlt
  obtain ⟨bx, ox, cx, ea, ⟨a0, c0, a1, c1, rfl, hsl, hmok⟩, hcx⟩ := hl3.el i g.l[i] (List.getElem?_eq_getElem hlt)
  have hrep : tMember.rep k3 (g.l[i].cs a0 c0 a1 c1) g.l[i] := ⟨a0, c0, a1, c1, rfl, hsl, hmok⟩
  have hbt := memOk_time ((right_all.1 hck.right).1 g.l[i] (List.getElem_mem hlt))
  obtain ⟨m, hm⟩ : ∃ m, g.l[i] = m := ⟨_, rfl⟩
  rw [hm] at hcx hrep hfs hbt
  subst ea
  unfold timeOk at hbt
  simp only [Bool.and_eq_true, decide_eq_true_eq] at hbt
  obtain ⟨w1, w2⟩ := hbt
  have m5 := (Member.parts (hcx.le hle8)).2.2.2.2.2
  repeat (first | refine cg_seq ?_ | refine cg_region ?_ | refine rg_nil ?_ | refine eg_then ?_ | refine qsp ?_ | refine qss ?_ | refine qsi ?_ | refine qsl ?_ | refine qsf ?_ | refine cg_skip ?_ | refine cg_block ?_)
  have hlm : decide (now - m.beat ≤ most) = !lateM now most m := by
    unfold lateM
    by_cases hh : m.beat + most < now
    · rw [decide_eq_true hh, decide_eq_false (by omega)]; rfl
    · rw [decide_eq_false hh, decide_eq_true (by omega)]; rfl
  rw [hlm]
  cases z1 : lateM now most m
  case true =>
    rw [z1, if_neg (show ¬ (!true) = true by decide), List.append_nil] at hfs
    repeat (first | refine cg_region ?_ | refine rg_nil ?_ | refine eg_then ?_ | refine qsp ?_ | refine qsa ?_ | refine cg_cond_false rfl ?_ | refine cg_skip ?_ | refine eg_in_normal ?_)
    exact eg_again (i + 1) _ ⟨v, css, hle8, hap, by rw [hfs]; exact hpc, by rw [hfs]; exact hrow, hk86, hk89, hlt, rfl⟩ (by omega) ⟨rfl, rfl, rfl, rfl, rfl, rfl, trivial⟩
  rw [z1, if_pos (show (!false) = true from rfl)] at hfs
  clear m5 p3
  have hHd : Le k3 (delV k8 v) := le_delV hle8 hap
  have hv6 : v.ownBlock ≠ some b6 := hrow.owner1 hk86 (by decide)
  have hv9 : v.ownBlock ≠ some b9 := hrow.owner1 hk89 (by decide)
  have dk6 : delV k8 v b6 = _ := (delV_of hv6).trans hk86
  have dk9 : delV k8 v b9 = _ := (delV_of hv9).trans hk89
  have p3 := p3'.le hHd
  have c6 := hcx.le hHd
  have ck := (cells_at (vs := gV g v) dk9 rfl).one (i := 3) rfl
  have e1 := Member.one k3 _ m hrep
  repeat (first | refine cg_cond_true rfl ?_)
  refine cg_grow 10 8 v hrow (by kernel_rfl) (by kernel_rfl) rfl (by kernel_rfl) rfl ?_
  dsimp only [List.take]
  repeat (first | refine qcp ?_ | refine qci ?_ | refine qcl ?_ | refine qcg ?_ | refine qcf ?_)
  refine wc_v rfl (loc_alloc rfl (a_slice (cells := m.cs a0 c0 a1 c1) rfl rfl rfl rfl (by kernel_rfl) rfl)) rfl ?_
  refine wc_e 0 rfl (eff_grow2 (j := 1) (news := m.cs a0 c0 a1 c1) rfl rfl rfl rfl rfl (fun k1 u _ ⟨b, hu, hkb, _⟩ => ⟨b, 0, 1, hu, cells_at hkb rfl⟩) rfl e1 (by kernel_rfl) rfl (by unfold maxLen; omega) (by have := hsm.1; omega)) ?_
  repeat (first | refine qcf ?_)
  refine wc_nil ?_
  intro k11 vs hle11 hvs
  obtain ⟨hrow11, hap11⟩ : Row F.w0.heap.size k11 44 6 (vs 53) (((g.l.take i).filter fun m => !lateM now most m).length + 1) (css.flatten ++ m.cs a0 c0 a1 c1) ∧ Apart (delV k8 v) (vs 53) := hvs 53 _ rfl
  clear hvs
  dsimp only [List.drop, set, argEnv, nameE, nameP]
  generalize vs 53 = v' at hrow11 hap11 ⊢
  have hk11 := hle11 _ _ dk9
  have hk114 := hle11 _ _ dk6
  refine rw0 rfl rfl rfl rfl rfl rfl hrow11.oneV1 rfl hk11 (by show _ < 4; omega) (.inl hN9) ?_; intro k12 ht12 hk12
  repeat (first | refine cg_region ?_ | refine rg_nil ?_ | refine eg_then ?_ | refine qsp ?_ | refine qsa ?_ | refine eg_in_normal ?_)
  refine eg_again (i + 1) _ ⟨v', css ++ [m.cs a0 c0 a1 c1], ht12 _ (hHd.trans hle11) k3b9, ?_, ?_, ?_, turn1_get ht12 n69 hk114, hk12, hlt, rfl⟩ (by omega) ⟨rfl, rfl, rfl, rfl, rfl, rfl, trivial⟩
  · intro gg hgg
    cases hc : k3 gg with
    | none => rfl
    | some ob => have := hap11 gg hgg; rw [hHd _ _ hc] at this; cases this
  · rw [hfs]; exact hpc.append (Pieces.one hrep)
  · rw [hfs]; simpa using hrow11.turnY ht12 hk11 (by decide)
end Go.Wm

/-
  The chapter's example, in plain Lean. Conditions: none.
-/
import Derived.Test.YtbhgbfhgdccghaaGreatR5
import Derived.Test.YtbhgbfhgdccghaaGreatK14
import Derived.Test.YtbhgbfhgdccghaaGreatN8
import Derived.Test.YtbhgbfhgdccghaaGreatK7
set_option linter.all false
namespace Go.Wm
open Go.RowKit Go.Proofs
/-- What a group that is told alone is. -/
def GrpA (q : Group) (k : PH) (v : Value) : Prop := ∃ a c, v = .agg (q.cs a c).toArray ∧ Sl tMember k a c q.l
theorem GrpA.mono {q : Group} : ∀ k k' v, Le k k' → GrpA q k v → GrpA q k' v := fun k k' v hle ⟨a, c, h1, h2⟩ => ⟨a, c, h1, h2.le hle⟩
/-- A group anew: its members lie in a row of the call's own. -/
def GrpN (g : Group) (k : PH) (N : Nat) (k' : PH) (v : Value) : Prop := ∃ a c KK css, v = .agg (g.cs a c).toArray ∧ Le k KK ∧ Le KK k' ∧ Apart KK (.slice a g.l.length c) ∧ Pieces tMember KK css g.l ∧ Row N k' 44 6 (.slice a g.l.length c) g.l.length css.flatten
theorem GrpN.mono {g : Group} {k : PH} : ∀ N k1 k2 v, Le k1 k2 → GrpN g k N k1 v → GrpN g k N k2 v := fun N k1 k2 v hle ⟨a, c, KK, css, h1, h2, h3, h4, h5, h6⟩ => ⟨a, c, KK, css, h1, h2, h3.trans hle, h4, h5, h6.le hle⟩
theorem ct_of_new {f : FuncId} {args : Array Value} {k : PH} {g : Group} (h : CTN Tryz.prog f args k (GrpN g k)) : CT Tryz.prog f args k (GrpA g) := by
  intro w k1 hle hs
  refine (h w k1 hle hs).mono ?_
  rintro e w' ⟨v, k', h1, h2, h3, h4, a, c, KK, css, h5, h6, h7, h8, h9, h10⟩
  exact ⟨v, k', h1, h2, h3, h4, a, c, h5, GrpR.sl h9 h10 h7⟩
def refRoundG (g : Group) : Group × Int := if 1048576 ≤ g.gen then (noG, 2) else (roundG g, 0)
attribute [local irreducible] RG CG EG WA Loc Det Alc CT Exit.then Exit.inBlock Code.wp bodyPost
set_option maxHeartbeats 400000 in
theorem settled_ct {k : PH} {g : Group} {a : Option Addr} {c : Nat} (hl : Sl tMember k a c g.l) : CT Tryz.prog 92 #[.agg (g.cs a c).toArray] k (GrpA { g with state := stateG g.l }) := by
  refine ct_of_body (l := [_]) Tryz.func92 rfl Tryz.ntmps92 (by simp) GrpA.mono fun F hF0 hFm => ?_
  repeat (first | refine cg_seq ?_ | refine cg_region ?_)
  refine rb rfl rfl rfl rfl (a_box rfl rfl) ?_; intro b1 k1 hb1 hN1 hle1 hk1
  refine rb rfl rfl rfl rfl (a_alloc rfl) ?_; intro b2 k2 hb2 hN2 hle2 hk2
  have hl0 := hl
  have hl := hl.le (hle1.trans hle2)
  have n2 : b1 ≠ b2 := fun e => by rw [e, hb2] at hk1; cases hk1
  have hk1 := hle2 _ _ hk1
  obtain ⟨p0, p1, p2, p3⟩ := Group.parts (cells_at (vs := g.cs a c) hk1 rfl)
  repeat (first | refine cg_seq ?_ | refine cg_region ?_ | refine rg_nil ?_ | refine eg_then ?_ | refine qsl ?_ | refine qsf ?_)
  refine rs rfl rfl (loc_call_is rfl rfl rfl rfl (refState_ct hl)) ?_
  repeat (first | refine qsf ?_)
  refine rw0 rfl rfl rfl rfl rfl rfl rfl rfl hk1 (by show _ < 4; omega) (.inl hN1) ?_; intro k3 ht3 hk3
  have hk3 : k3 b1 = some (.cells (({ g with state := stateG g.l } : Group).cs a c).toArray 24 (0, 0)) := hk3
  have hle3 : Le k k3 := ht3 k (hle1.trans hle2) hb1
  have c3 := cells_at (vs := ({ g with state := stateG g.l } : Group).cs a c) hk3 rfl
  have r3 := turn1_get ht3 (Ne.symm n2) hk2
  repeat (first | refine cg_seq ?_ | refine cg_region ?_ | refine rg_nil ?_ | refine eg_then ?_ | refine qsg ?_)
  refine rw1 (vs := ({ g with state := stateG g.l } : Group).cs a c) rfl rfl rfl rfl rfl rfl rfl r3 rfl (.inl hN2) (by simp [Group.cs, Value.oneCell']) ?_
  intro k4 ht4 hk4
  repeat (first | refine rg_nil ?_ | refine eg_then ?_ | refine cg_ret ?_)
  exact eg_returnC rfl rfl rfl (cells_at (vs := ({ g with state := stateG g.l } : Group).cs a c) hk4 rfl) rfl ⟨a, c, rfl, hl0.le (ht4 k hle3 (by
    cases hc : k b2 with
    | none => rfl
    | some ob => have := (hle1 _ _ hc); rw [hb2] at this; cases this))⟩
end Go.Wm
-- cut by zcut
namespace Go.Wm
open Go.RowKit Go.Proofs
def gV (g : Group) (v : Value) : List Value := [.string g.name, .int .i64 g.gen, .int .i64 g.state, v]
theorem apart_new {k : PH} {b m c : Nat} (hb : k b = none) : Apart k (.slice (some ⟨b, 0, none⟩) m c) := fun g hg => by
  have : b = g := by simpa [Value.ownBlock] using hg
  rw [← this]; exact hb
theorem row_sl {et sz : Nat} {N : Nat} {k : PH} {v : Value} {m : Nat} {xs : List Value} (h : Row N k et sz v m xs) : ∃ a c, v = .slice a m c := by
  rcases h.own with ⟨e0, e1, _⟩ | ⟨g, cap, cur, e0, _⟩
  · exact ⟨_, _, by rw [e0, e1]⟩
  · exact ⟨_, _, e0⟩
attribute [local irreducible] RG CG EG WA Loc Det Alc CT Exit.then Exit.inBlock Code.wp bodyPost
set_option maxHeartbeats 4000000 in
theorem copied_ctn {k : PH} {g : Group} {a : Option Addr} {c : Nat} (hl : Sl tMember k a c g.l) (hsm : SmallG g) : CTN Tryz.prog 41 #[.agg (g.cs a c).toArray] k (GrpN g k) := by
  refine ctn_of_body (l := [_]) Tryz.func41 rfl Tryz.ntmps41 (by simp) GrpN.mono fun F hF0 hFm => ?_
  have b1 := hl.cap; have b2 := hl.max; unfold maxLen at b2
  repeat (first | refine cg_seq ?_ | refine cg_region ?_)
  refine rb rfl rfl rfl rfl (a_box rfl rfl) ?_; intro b1 k1 hb1 hN1 hle1 hk1
  refine rb rfl rfl rfl rfl (a_alloc rfl) ?_; intro b2 k2 hb2 hN2 hle2 hk2
  have d1 := (cells_at (vs := g.cs a c) hk1 rfl).le hle2
  repeat (first | refine cg_seq ?_ | refine cg_region ?_ | refine rg_nil ?_ | refine eg_then ?_ | refine qsg ?_)
  refine rb rfl rfl rfl rfl (a_alloc rfl) ?_; intro b3 k3 hb3 hN3 hle3 hk3
  refine rw1 (vs := g.cs a c) rfl rfl rfl rfl rfl rfl rfl hk3 rfl (.inl hN3) (by simp [Group.cs, Value.oneCell']) ?_
  intro k4 ht4 hk4
  have hle4 : Le k2 k4 := ht4 k2 hle3 hb3
  repeat (first | refine cg_seq ?_ | refine cg_region ?_ | refine rg_nil ?_ | refine eg_then ?_ | refine qsf ?_)
  refine rw0 rfl rfl rfl rfl rfl rfl rfl rfl hk4 (by show _ < 4; omega) (.inl hN3) ?_; intro k5 ht5 hk5
  have hle5 : Le k2 k5 := ht5 k2 hle4 hb3
  have hk5 : k5 b3 = some (.cells (gV g (.slice none 0 0)).toArray 24 (0, 0)) := hk5
  have hl1 := hl.le hle1
  have hk5b := hle5 _ _ hk2
  have n23 : b2 ≠ b3 := fun e => by rw [e, hb3] at hk2; cases hk2
  clear ht4 ht5 hk4 hk3 hle4
  obtain ⟨_, _, _, p3'⟩ := Group.parts (cells_at (vs := g.cs a c) hk1 rfl)
  clear d1
  repeat (first | refine cg_seq ?_ | refine cg_region ?_ | refine rg_nil ?_ | refine eg_then ?_ | refine qsp ?_ | refine cg_block ?_)
  refine cg_loop (fun (i : Nat) e k' => ∃ v KK css, Le k1 KK ∧ Le KK k' ∧ KK b2 = none ∧ KK b3 = none ∧ Apart KK v ∧ Pieces tMember KK css (g.l.take i) ∧ Row F.w0.heap.size k' 44 6 v (g.l.take i).length css.flatten ∧ k' b2 = some (.cells (noG.cs none 0).toArray 24 (0, 0)) ∧ k' b3 = some (.cells (gV g v).toArray 24 (0, 0)) ∧ i ≤ g.l.length ∧
      e = [(1, .is (.pointer (some ⟨b1, 0, none⟩))), (2, .is (.pointer (some ⟨b2, 0, none⟩))), (3, .is (.pointer (some ⟨b3, 0, none⟩))), (4, .is (.int .i64 (i : Int)))])
    (fun i => g.l.length - i) 0 ⟨.slice none 0 0, k1, [], Le.refl _, hle2.trans hle5, hb2, (by
      cases hc : k1 b3 with
      | none => rfl
      | some ob => have := hle2 _ _ hc; rw [hb3] at this; cases this), apart_nil _ _ _, Pieces.nil _ _, row_nil _ _ _ _, hk5b, hk5, Nat.zero_le _, rfl⟩ ⟨rfl, rfl, rfl, rfl, trivial⟩ ?_
  rintro i e k6 ⟨v, KK, css, hKK, hle6, hKc, hKb, hap, hpc, hrow, hk6b, hk6, hi, rfl⟩
  have hle16 : Le k1 k6 := hKK.trans hle6
  have p3 := p3'.le hle16
  repeat (first | refine cg_seq ?_ | refine cg_region ?_ | refine rg_nil ?_ | refine eg_then ?_ | refine qsp ?_ | refine qsn ?_ | refine qsl ?_ | refine qsf ?_)
  refine cg_cond rfl (fun h => ?_) (fun h => ?_)
  rotate_left
  · have hil : i = g.l.length := by have := of_decide_eq_false h; omega
    rw [hil, List.take_length] at hpc hrow
    obtain ⟨a', c', rfl⟩ := row_sl hrow
    have d3 := cells_at (vs := g.cs a' c') hk6 rfl
    clear p3
    repeat (first | refine cg_seq ?_ | refine cg_region ?_ | refine eg_then ?_ | refine qsg ?_ | refine cg_exit ?_ | refine eg_then_exit ?_ | refine eg_in_exit ?_)
    refine rw1 (vs := g.cs a' c') rfl rfl rfl rfl rfl rfl rfl hk6b rfl (.inl hN2) (by simp [Group.cs, Value.oneCell']) ?_
    intro k7 ht7 hk7
    repeat (first | refine rg_nil ?_ | refine eg_then ?_ | refine cg_ret ?_)
    exact eg_returnC rfl rfl rfl (cells_at (vs := g.cs a' c') hk7 rfl) rfl ⟨a', c', KK, css, rfl, hle1.trans hKK, ht7 KK hle6 hKc, hap, hpc, hrow.turnY ht7 hk6b (by decide)⟩
  have hlt : i < g.l.length := by have := of_decide_eq_true h; omega
  obtain ⟨bx, ox, cx, ea, ⟨a0, c0, a1, c1, rfl, ⟨hsub, hown⟩, hmok⟩, hcx⟩ := hl1.el i g.l[i] (List.getElem?_eq_getElem hlt)
  have hcx6 := hcx.le hle16
  have hsm' := hsm.2 g.l[i] (List.getElem_mem hlt)
  have htk := List.take_succ_eq_append_getElem hlt
  obtain ⟨m, hm⟩ : ∃ m, g.l[i] = m := ⟨_, rfl⟩
  rw [hm] at hcx6 hsub hown hmok hsm' htk
  subst ea
  repeat (first | refine cg_seq ?_ | refine cg_region ?_ | refine eg_then ?_ | refine qsp ?_ | refine qsi ?_ | refine qsl ?_ | refine qsg ?_ | refine qsf ?_ | refine cg_skip ?_ | refine cg_block ?_)
  refine rb rfl rfl rfl rfl (a_alloc rfl) ?_; intro b5 k7 hb7 hN7 hle7 hk7
  have hle67 : Le k6 k7 := hle7
  refine rw1 (vs := m.cs a0 c0 a1 c1) rfl rfl rfl rfl rfl rfl rfl hk7 rfl (.inl hN7) ?_ ?_
  · exact Member.one k1 _ m ⟨a0, c0, a1, c1, rfl, ⟨hsub, hown⟩, hmok⟩
  intro k8 ht8 hk8
  have hle68 : Le k6 k8 := ht8 k6 hle67 hb7
  clear hcx hcx6 hk7 ht8
  obtain ⟨_, _, q2, q3, _, _⟩ := Member.parts (cells_at (vs := m.cs a0 c0 a1 c1) hk8 rfl)
  repeat (first | refine cg_seq ?_ | refine cg_region ?_ | refine rg_nil ?_ | refine eg_then ?_)
  refine rb rfl rfl rfl rfl (a_empty rfl) ?_; intro be ke hbe hNe hlee hke
  have q2 := q2.le hlee
  repeat (first | refine qsl ?_ | refine qsf ?_)
  refine raps2 (T := tStr) (sz := 1) (m := 0) (olds := []) rfl rfl rfl rfl rfl rfl rfl rfl (row_empty hNe hke) hsub (hle16.trans (hle68.trans hlee)) ByteArray.one rfl rfl (by unfold maxLen; have := hsub.cap; have := hsub.max; unfold maxLen at this; omega) (by have := hsm'.1; omega) ?_
  intro u9 k9 css9 hp9 hr9 ht9
  obtain ⟨hle89, _⟩ := ht9 k8 hlee (apart_new hbe)
  have hcs9 := pieces_map (T := tStr) (f := strV) (fun _ _ _ h => h.1) hp9
  have hr9 : Row F.w0.heap.size k9 9 1 u9 m.subs.length (m.subs.flatMap strV) := by rw [hcs9] at hr9; simpa [List.flatMap_def] using hr9
  obtain ⟨au, cu, rfl⟩ := row_sl hr9
  have hk9 := hle89 _ _ hk8
  clear q2 ht9 hp9 hcs9 hlee hke hbe hNe
  repeat (first | refine qsf ?_)
  refine rw0 rfl rfl rfl rfl rfl rfl rfl rfl hk9 (by show _ < 6; omega) (.inl hN7) ?_; intro k10 ht10 hk10
  have hk10 : k10 b5 = some (.cells (m.cs au cu a1 c1).toArray 44 (0, 0)) := hk10
  have hle6x : Le k6 k10 := ht10 k6 (hle68.trans hle89) hb7
  have hr10 := hr9.turnY ht10 hk9 (by decide)
  clear hr9 hk9 ht10 q3 hle89 hle68 hk8
  obtain ⟨_, _, _, q3, _, _⟩ := Member.parts (cells_at (vs := m.cs au cu a1 c1) hk10 rfl)
  repeat (first | refine cg_seq ?_ | refine cg_region ?_ | refine rg_nil ?_ | refine eg_then ?_)
  refine rb rfl rfl rfl rfl (a_empty rfl) ?_; intro be ke hbe hNe hlee hke
  have q3 := q3.le hlee
  repeat (first | refine qsl ?_ | refine qsf ?_)
  refine raps2 (T := tTp) (sz := 3) (m := 0) (olds := []) rfl rfl rfl rfl rfl rfl rfl rfl (row_empty hNe hke) hown (hle16.trans (hle6x.trans hlee)) Tp.one rfl rfl (by unfold maxLen; have := hown.cap; have := hown.max; unfold maxLen at this; omega) (by have := hsm'.2; omega) ?_
  intro u11 k11 css11 hp11 hr11 ht11
  obtain ⟨hle11, _⟩ := ht11 k10 hlee (apart_new hbe)
  have hcs11 := pieces_map (T := tTp) (f := Tp.vs) (fun _ _ _ h => h.1) hp11
  have hr11 : Row F.w0.heap.size k11 53 3 u11 m.own.length (m.own.flatMap Tp.vs) := by rw [hcs11] at hr11; simpa [List.flatMap_def] using hr11
  obtain ⟨ao, co, rfl⟩ := row_sl hr11
  have hk11 := hle11 _ _ hk10
  have hr10 := hr10.le hle11
  clear q3 ht11 hp11 hcs11 hlee hke hbe hNe
  repeat (first | refine qsf ?_)
  refine rw0 rfl rfl rfl rfl rfl rfl rfl rfl hk11 (by show _ < 6; omega) (.inl hN7) ?_; intro k12 ht12 hk12
  have hk12 : k12 b5 = some (.cells (m.cs au cu ao co).toArray 44 (0, 0)) := hk12
  have hle6y : Le k6 k12 := ht12 k6 (hle6x.trans hle11) hb7
  have hur := hr10.turnY ht12 hk11 (by decide)
  have hwr := hr11.turnY ht12 hk11 (by decide)
  clear hr10 hr11 hk11 ht12 hle11 hle6x hk10
  have hrow12 := hrow.le hle6y
  have hk12b := hle6y _ _ hk6
  have hk12c := hle6y _ _ hk6b
  have hv3 := hrow12.owner1 hk12b (by decide)
  have hv2 := hrow12.owner1 hk12c (by decide)
  have hkeep : ∀ gg, gg ≠ b2 → gg ≠ b3 → v.ownBlock ≠ some gg → keepH (delB k12 b2) b3 v gg = k12 gg := fun gg h0 h1 h2 => by
    unfold keepH
    rw [delV_of h2]
    unfold delB
    rw [if_neg h1, if_neg h0]
  have hsu : Sl tStr (keepH (delB k12 b2) b3 v) au cu m.subs := row_sl_str (hur.at fun gg hg => hkeep gg (fun e => hur.owner1 hk12c (by decide) (by rw [← e]; exact hg)) (fun e => hur.owner1 hk12b (by decide) (by rw [← e]; exact hg)) (hur.two1 hrow12 (by decide) hg)) (sl_ok_str hsub)
  have hso : Sl tTp (keepH (delB k12 b2) b3 v) ao co m.own := row_sl_tp (hwr.at fun gg hg => hkeep gg (fun e => hwr.owner1 hk12c (by decide) (by rw [← e]; exact hg)) (fun e => hwr.owner1 hk12b (by decide) (by rw [← e]; exact hg)) (hwr.two1 hrow12 (by decide) hg)) (sl_ok_tp hown)
  have hrep : tMember.rep (keepH (delB k12 b2) b3 v) (m.cs au cu ao co) m := ⟨au, cu, ao, co, rfl, ⟨hsu, hso⟩, hmok⟩
  have hKH : Le KK (keepH (delB k12 b2) b3 v) := le_keepH (le_delB (hle6.trans hle6y) hKc) hKb hap
  have c6 := cells_at (vs := m.cs au cu ao co) hk12 rfl
  have ck := (cells_at (vs := gV g v) hk12b rfl).one (i := 3) rfl
  have hnb : g.l.length * 96 ≤ 140737488355328 := hsm.1
  have hti : (g.l.take i).length = i := by rw [List.length_take]; omega
  repeat (first | refine cg_region ?_ | refine rg_nil ?_ | refine eg_then ?_ | refine qsl ?_ | refine qsg ?_ | refine qsf ?_)
  refine rb rfl rfl rfl rfl (a_slice (cells := m.cs au cu ao co) rfl rfl rfl rfl (by kernel_rfl) rfl) ?_; intro b13 k13 hb13 hN13 hle13 hk13
  have c13 := cells_at (vs := m.cs au cu ao co) hk13 rfl
  refine rap rfl rfl rfl rfl rfl rfl rfl (hrow12.le hle13) c13 rfl (by simp [Member.cs, Value.oneCell']) rfl rfl (by unfold maxLen; omega) (by omega) ?_
  intro v14 k14 hrow14 ht14
  obtain ⟨hleA, hapA⟩ := ht14 (keepH (delB k12 b2) b3 v) ((keepH_le _ _ _).trans ((delB_le _ _).trans hle13)) (keepH_v _ _ _)
  obtain ⟨hleB, _⟩ := ht14 (delV k12 v) ((delV_le _ _).trans hle13) fun g hg => delV_own hg
  have hk14b := hleB _ _ ((delV_of hv3).trans hk12b)
  have hk14c := hleB _ _ ((delV_of hv2).trans hk12c)
  clear hleB ht14 c6 ck
  repeat (first | refine qsf ?_)
  refine rw0 rfl rfl rfl rfl rfl rfl hrow14.oneV1 rfl hk14b (by show _ < 4; omega) (.inl hN3) ?_; intro k15 ht15 hk15
  have hK2 : keepH (delB k12 b2) b3 v b2 = none := by
    cases hc : keepH (delB k12 b2) b3 v b2 with
    | none => rfl
    | some ob => have := keepH_le _ _ _ _ _ hc; rw [delB_own] at this; cases this
  repeat (first | refine cg_region ?_ | refine rg_nil ?_ | refine eg_then ?_ | refine qsp ?_ | refine qsa ?_ | refine eg_in_normal ?_)
  refine eg_again (i + 1) _ ⟨v14, keepH (delB k12 b2) b3 v, css ++ [m.cs au cu ao co], hKK.trans hKH, ht15 _ hleA (keepH_b _ _ _), hK2, keepH_b _ _ _, hapA, ?_, ?_, turn1_get ht15 ?_ hk14c, hk15, hlt, rfl⟩ (by omega) ⟨rfl, rfl, rfl, rfl, trivial⟩
  · rw [htk]; exact (hpc.le hKH).append (Pieces.one hrep)
  · rw [htk]; simpa using hrow14.turnY ht15 hk14b (by decide)
  · exact n23
end Go.Wm
namespace Go.Wm
open Go.RowKit Go.Proofs
attribute [local irreducible] RG CG EG WA Loc Det Alc CT Exit.then Exit.inBlock Code.wp bodyPost
set_option maxHeartbeats 1000000 in
theorem refRound_ct {k : PH} {g : Group} {a : Option Addr} {c : Nat} (hl : Sl tMember k a c g.l) (hsm : SmallG g) (hg : I64 g.gen) : CT Tryz.prog 91 #[.agg (g.cs a c).toArray] k (GrpV (refRoundG g)) := by
  refine ct_of_body (l := [_]) Tryz.func91 rfl Tryz.ntmps91 (by simp) GrpV.mono fun F hF0 hFm => ?_
  have b1 := hl.cap; have b2 := hl.max; unfold maxLen at b2
  unfold refRoundG I64 at *
  repeat (first | refine cg_seq ?_ | refine cg_region ?_)
  refine rb rfl rfl rfl rfl (a_box rfl rfl) ?_; intro b1 k1 hb1 hN1 hle1 hk1
  refine rb rfl rfl rfl rfl (a_alloc rfl) ?_; intro b2 k2 hb2 hN2 hle2 hk2
  have d1 := (cells_at (vs := g.cs a c) hk1 rfl).le hle2
  obtain ⟨_, p1, _, _⟩ := Group.parts (cells_at (vs := g.cs a c) hk1 rfl)
  have p1 := p1.le hle2
  repeat (first | refine cg_seq ?_ | refine cg_region ?_ | refine rg_nil ?_ | refine eg_then ?_ | refine qsp ?_ | refine qsl ?_ | refine qsf ?_)
  refine cg_cond rfl (fun h => ?_) (fun h => ?_)
  · rw [if_pos (by have := of_decide_eq_true h; omega)]
    repeat (first | refine cg_seq ?_ | refine cg_region ?_)
    refine rs rfl rfl (loc_det rfl (d_lit (cells := noG.cs none 0) rfl rfl rfl)) ?_
    refine rw1 (vs := noG.cs none 0) rfl rfl rfl rfl rfl rfl rfl hk2 rfl (.inl hN2) (by simp [Group.cs, Value.oneCell']) ?_
    intro k3 ht3 hk3
    repeat (first | refine rg_nil ?_ | refine eg_then ?_ | refine qsp ?_ | refine cg_ret ?_ | refine eg_then_ret ?_)
    exact eg_returnC2 rfl rfl rfl rfl (cells_at (vs := noG.cs none 0) hk3 rfl) rfl ⟨none, 0, rfl, sl_nilM _⟩
  have hgen : g.gen < 1048576 := by have := of_decide_eq_false h; omega
  rw [if_neg (by omega)]
  have hl1 := hl.le hle1
  repeat (first | refine cg_seq ?_ | refine cg_region ?_ | refine eg_then ?_ | refine qsg ?_ | refine cg_skip ?_)
  refine rvnh rfl rfl rfl rfl rfl rfl rfl hle2 (copied_ctn hl1 hsm) ?_
  rintro N1 kq k3 _ hN hf hle1q hsame hle3 hq3 ⟨a3, c3, KK, css0, rfl, hKK, hKq, hap, hpc0, hrow0⟩
  have hrow0 := (hrow0.N_le hN).le hq3
  have hK3 := hKq.trans hq3
  have kb2 : KK b2 = none := by
    cases hc : KK b2 with
    | none => rfl
    | some ob => have := hKq _ _ hc; rw [hsame _ _ hk2, hb2] at this; cases this
  have p1 := p1.le hle3
  clear d1
  skip
  refine rb rfl rfl rfl rfl (a_alloc rfl) ?_; intro b4 k4 hb4 hN4 hle4 hk4
  have kb4 : KK b4 = none := by
    cases hc : KK b4 with
    | none => rfl
    | some ob => have := hK3 _ _ hc; rw [hb4] at this; cases this
  refine rw1 (vs := g.cs a3 c3) rfl rfl rfl rfl rfl rfl rfl hk4 rfl (.inl hN4) (by simp [Group.cs, Value.oneCell']) ?_
  intro k5 ht5 hk5
  have hle35 : Le k3 k5 := ht5 k3 hle4 hb4
  have p1 := p1.le hle35
  repeat (first | refine cg_seq ?_ | refine cg_region ?_ | refine rg_nil ?_ | refine eg_then ?_ | refine qsa ?_ | refine qsl ?_ | refine qsf ?_)
  refine rw0 rfl rfl rfl rfl rfl rfl rfl rfl hk5 (by show _ < 4; omega) (.inl hN4) ?_; intro k6 ht6 hk6
  have hk6 : k6 b4 = some (.cells (gV { g with gen := g.gen + 1 } (.slice a3 g.l.length c3)).toArray 24 (0, 0)) := hk6
  have hle36 : Le k3 k6 := ht6 k3 hle35 hb4
  have hK6 := hK3.trans hle36
  have hrow6 := hrow0.le hle36
  have hk62 := hle36 _ _ (hle3 _ _ hk2)
  have n24 : b2 ≠ b4 := fun e => by have := hle3 _ _ hk2; rw [e, hb4] at this; cases this
  clear p1 ht5 ht6 hk5 hk4
  repeat (first | refine cg_seq ?_ | refine cg_region ?_ | refine rg_nil ?_ | refine eg_then ?_ | refine qsp ?_ | refine cg_block ?_)
  refine cg_loop (fun (i : Nat) e k' => ∃ css, Le KK k' ∧ Pieces tMember KK css (curU g.l i) ∧ Row F.w0.heap.size k' 44 6 (.slice a3 g.l.length c3) g.l.length css.flatten ∧ k' b4 = some (.cells (gV { g with gen := g.gen + 1 } (.slice a3 g.l.length c3)).toArray 24 (0, 0)) ∧ k' b2 = some (.cells (noG.cs none 0).toArray 24 (0, 0)) ∧ i ≤ g.l.length ∧ e = [(1, .is (.pointer (some ⟨b1, 0, none⟩))), (2, .is (.pointer (some ⟨b2, 0, none⟩))), (3, .is (.int .i64 0)), (4, .is (.pointer (some ⟨b4, 0, none⟩))), (5, .is (.int .i64 (i : Int)))])
    (fun i => g.l.length - i) 0 ⟨css0, hK6, by rw [curU_zero]; exact hpc0, hrow6, hk6, hk62, Nat.zero_le _, rfl⟩ ⟨rfl, rfl, rfl, rfl, rfl, trivial⟩ ?_
  rintro i e k7 ⟨css, hK7, u1, u2, hk7, hk72, hi, rfl⟩
  have c3' := (cells_at (vs := gV { g with gen := g.gen + 1 } (.slice a3 g.l.length c3)) hk7 rfl).one (i := 3) rfl
  repeat (first | refine cg_seq ?_ | refine cg_region ?_ | refine rg_nil ?_ | refine eg_then ?_ | refine qsp ?_ | refine qsn ?_ | refine qsl ?_ | refine qsf ?_)
  refine cg_cond rfl (fun h => ?_) (fun h => ?_)
  rotate_left
  · have hil : i = g.l.length := by have := of_decide_eq_false h; omega
    rw [hil, curU_end] at u1
    have hlm : (roundG g).l.length = g.l.length := List.length_map _
    have hcs7 : (roundG g).cs a3 c3 = gV { g with gen := g.gen + 1 } (.slice a3 g.l.length c3) := by unfold Group.cs gV; rw [hlm]; rfl
    have hk7' : k7 b4 = some (.cells ((roundG g).cs a3 c3).toArray 24 (0, 0)) := by rw [hcs7]; exact hk7
    have d7 := cells_at (vs := (roundG g).cs a3 c3) hk7' rfl
    clear c3'
    repeat (first | refine cg_seq ?_ | refine cg_region ?_ | refine eg_then ?_ | refine qsg ?_ | refine cg_exit ?_ | refine eg_then_exit ?_ | refine eg_in_exit ?_)
    refine rw1 (vs := (roundG g).cs a3 c3) rfl rfl rfl rfl rfl rfl rfl hk72 rfl (.inl hN2) (by simp [Group.cs, Value.oneCell']) ?_
    intro k8 ht8 hk8
    repeat (first | refine rg_nil ?_ | refine eg_then ?_ | refine qsp ?_ | refine cg_ret ?_)
    have hsl : Sl tMember k8 a3 c3 (g.l.map unjoin) := by
      have u2' : Row F.w0.heap.size k7 44 6 (.slice a3 (g.l.map unjoin).length c3) (g.l.map unjoin).length css.flatten := by rw [List.length_map]; exact u2
      exact GrpR.sl u1 (u2'.turnY ht8 hk72 (by decide)) (ht8 KK hK7 kb2)
    exact eg_returnC2 rfl rfl rfl rfl (cells_at (vs := (roundG g).cs a3 c3) hk8 rfl) rfl ⟨a3, c3, rfl, hsl⟩
  have hlt' : i < g.l.length := by have := of_decide_eq_true h; omega
  have hcl : css.length = g.l.length := by rw [u1.1, curU_len]
  have hcs := List.getElem?_eq_getElem (show i < css.length by omega)
  obtain ⟨a0, c0, a1, c1, hce, hsl4, hmok⟩ := u1.2 i _ _ hcs (curU_at hlt')
  rw [hce] at hcs
  obtain ⟨gb, cap, cur, hve, hgN, hkg, hglt, hcg, hset⟩ := Row.cell (i := i) (j := 4) (cs := g.l[i].cs a0 c0 a1 c1) u2 (fun y hy => u1.len y hy) hcs (by omega)
  cases hve
  have hne : gb ≠ b4 := fun e => by rw [e, hk7] at hkg; simp at hkg
  have hne2 : gb ≠ b2 := fun e => by rw [e, hk72] at hkg; simp at hkg
  have hKg : KK gb = none := hap gb rfl
  repeat (first | refine cg_seq ?_ | refine cg_region ?_ | refine eg_then ?_ | refine qsp ?_ | refine qsi ?_ | refine qsl ?_ | refine qsf ?_ | refine cg_skip ?_ | refine cg_block ?_)
  refine rw0 rfl rfl rfl rfl rfl rfl rfl rfl hkg (show 0 + i * 6 + 4 < cur.size by omega) (.inl hgN) ?_; intro k8 ht8 hk8
  have hrow8 := hset k8 (.bool false) ht8 (by rw [hk8]; simp)
  repeat (first | refine cg_region ?_ | refine rg_nil ?_ | refine eg_then ?_ | refine qsp ?_ | refine qsa ?_ | refine eg_in_normal ?_)
  refine eg_again (i + 1) _ ⟨css.set i ((g.l[i].cs a0 c0 a1 c1).set 4 (.bool false)), ht8 KK hK7 hKg, ?_, hrow8, turn1_get ht8 (Ne.symm hne) hk7, turn1_get ht8 (Ne.symm hne2) hk72, hlt', rfl⟩ (by omega) ⟨rfl, rfl, rfl, rfl, rfl, trivial⟩
  rw [curU_succ hlt']
  exact u1.set i ⟨a0, c0, a1, c1, rfl, hsl4, hmok⟩
end Go.Wm
namespace Go.Wm
open Go.RowKit Go.Proofs
/-- A list but for the n-th; none is left out if there is none. -/
def delN (n : Int) (l : List Member) : List Member := match n with | .ofNat j => l.eraseIdx j | .negSucc _ => l
theorem delN_len (n : Int) (l : List Member) : (delN n l).length ≤ l.length := by
  unfold delN
  split
  · exact List.length_eraseIdx_le _ _
  · exact Nat.le_refl _
theorem delN_sub (n : Int) (l : List Member) : (delN n l).Sublist l := by
  unfold delN
  split
  · exact List.eraseIdx_sublist _ _
  · exact List.Sublist.refl _
theorem delN_nil (n : Int) : delN n [] = [] := List.length_eq_zero_iff.1 (Nat.le_zero.1 (delN_len n []))
theorem delN_keep {n : Int} {l : List Member} {i : Nat} (hi : i < l.length) (h : (i : Int) ≠ n) : delN n (l.take (i + 1)) = delN n (l.take i) ++ [l[i]] := by
  rw [List.take_succ_eq_append_getElem hi]
  have ht : (l.take i).length = i := by rw [List.length_take]; omega
  unfold delN
  split
  · rename_i j
    have hji : j ≠ i := fun e => h (by rw [e]; rfl)
    by_cases hlt : j < i
    · rw [List.eraseIdx_append_of_lt_length (by omega)]
    · rw [List.eraseIdx_of_length_le (by simp; omega), List.eraseIdx_of_length_le (by omega)]
  · rfl
theorem delN_at {n : Int} {l : List Member} {i : Nat} (hi : i < l.length) (h : (i : Int) = n) : delN n (l.take (i + 1)) = delN n (l.take i) := by
  rw [List.take_succ_eq_append_getElem hi, ← h]
  have ht : (l.take i).length = i := by rw [List.length_take]; omega
  show (l.take i ++ [l[i]]).eraseIdx i = (l.take i).eraseIdx i
  rw [List.eraseIdx_of_length_le (l := l.take i) (by omega), List.eraseIdx_append_of_length_le (by omega), ht]
  simp
theorem delN_del {l : List Member} {i : Nat} (hi : i < l.length) : delN (i : Int) l = delM i l := by
  show l.eraseIdx i = _
  unfold delM
  rw [List.eraseIdx_eq_take_drop_succ]
attribute [local irreducible] RG CG EG WA Loc Det Alc CT Exit.then Exit.inBlock Code.wp bodyPost
set_option maxHeartbeats 2000000 in
theorem without_ct {k : PH} {g : Group} {a : Option Addr} {c : Nat} (hl : Sl tMember k a c g.l) (hnb : g.l.length * 96 ≤ 140737488355328) (n : Int) : CT Tryz.prog 46 #[.agg (g.cs a c).toArray, .int .i64 n] k (GrpA { g with l := delN n g.l }) := by
  refine ct_of_body (l := [_, _]) Tryz.func46 rfl Tryz.ntmps46 (by simp) GrpA.mono fun F hF0 hFm => ?_
  have b1 := hl.cap; have b2 := hl.max; unfold maxLen at b2
  repeat (first | refine cg_seq ?_ | refine cg_region ?_)
  refine rb rfl rfl rfl rfl (a_box rfl rfl) ?_; intro b2 k2 hb2 hN2 hle2 hk2
  refine rb rfl rfl rfl rfl (a_alloc rfl) ?_; intro b4 k4 hb4 hN4 hle4 hk4
  have d2 := (cells_at (vs := g.cs a c) hk2 rfl).le hle4
  repeat (first | refine cg_seq ?_ | refine cg_region ?_ | refine rg_nil ?_ | refine eg_then ?_ | refine qsg ?_)
  refine rb rfl rfl rfl rfl (a_alloc rfl) ?_; intro b5 k5 hb5 hN5 hle5 hk5
  refine rw1 (vs := g.cs a c) rfl rfl rfl rfl rfl rfl rfl hk5 rfl (.inl hN5) (by simp [Group.cs, Value.oneCell']) ?_
  intro k6 ht6 hk6
  have hle46 : Le k4 k6 := ht6 k4 hle5 hb5
  repeat (first | refine cg_seq ?_ | refine cg_region ?_ | refine rg_nil ?_ | refine eg_then ?_ | refine qsf ?_)
  refine rw0 rfl rfl rfl rfl rfl rfl rfl rfl hk6 (by show _ < 4; omega) (.inl hN5) ?_; intro k7 ht7 hk7
  have hle47 : Le k4 k7 := ht7 k4 hle46 hb5
  have hk7 : k7 b5 = some (.cells (gV g (.slice none 0 0)).toArray 24 (0, 0)) := hk7
  have hl2 := hl.le hle2
  have hk74 := hle47 _ _ hk4
  have n45 : b4 ≠ b5 := fun e => by rw [e, hb5] at hk4; cases hk4
  have k2b5 : k2 b5 = none := by
    cases hc : k2 b5 with
    | none => rfl
    | some ob => have := hle4 _ _ hc; rw [hb5] at this; cases this
  clear ht6 ht7 hk6 hk5 hle46 d2
  obtain ⟨_, _, _, p3'⟩ := Group.parts (cells_at (vs := g.cs a c) hk2 rfl)
  repeat (first | refine cg_seq ?_ | refine cg_region ?_ | refine rg_nil ?_ | refine eg_then ?_ | refine qsp ?_ | refine cg_block ?_)
  refine cg_loop (fun (i : Nat) e k' => ∃ v css, Le k2 k' ∧ Apart k2 v ∧ Pieces tMember k2 css (delN n (g.l.take i)) ∧ Row F.w0.heap.size k' 44 6 v (delN n (g.l.take i)).length css.flatten ∧ k' b4 = some (.cells (noG.cs none 0).toArray 24 (0, 0)) ∧ k' b5 = some (.cells (gV g v).toArray 24 (0, 0)) ∧ i ≤ g.l.length ∧
      e = [(1, .is (.int .i64 n)), (2, .is (.pointer (some ⟨b2, 0, none⟩))), (4, .is (.pointer (some ⟨b4, 0, none⟩))), (5, .is (.pointer (some ⟨b5, 0, none⟩))), (6, .is (.int .i64 (i : Int)))])
    (fun i => g.l.length - i) 0 ⟨.slice none 0 0, [], hle4.trans hle47, apart_nil _ _ _, by rw [List.take_zero, delN_nil]; exact Pieces.nil _ _, by rw [List.take_zero, delN_nil]; exact row_nil _ _ _ _, hk74, hk7, Nat.zero_le _, rfl⟩ ⟨rfl, rfl, rfl, rfl, rfl, trivial⟩ ?_
  rintro i e k8 ⟨v, css, hle8, hap, hpc, hrow, hk84, hk85, hi, rfl⟩
  have p3 := p3'.le hle8
  repeat (first | refine cg_seq ?_ | refine cg_region ?_ | refine rg_nil ?_ | refine eg_then ?_ | refine qsp ?_ | refine qsn ?_ | refine qsl ?_ | refine qsf ?_)
  refine cg_cond rfl (fun h => ?_) (fun h => ?_)
  rotate_left
  · have hil : i = g.l.length := by have := of_decide_eq_false h; omega
    rw [hil, List.take_length] at hpc hrow
    obtain ⟨a', c', rfl⟩ := row_sl hrow
    have d3 := cells_at (vs := ({ g with l := delN n g.l } : Group).cs a' c') hk85 rfl
    clear p3
    repeat (first | refine cg_seq ?_ | refine cg_region ?_ | refine eg_then ?_ | refine qsg ?_ | refine cg_exit ?_ | refine eg_then_exit ?_ | refine eg_in_exit ?_)
    refine rw1 (vs := ({ g with l := delN n g.l } : Group).cs a' c') rfl rfl rfl rfl rfl rfl rfl hk84 rfl (.inl hN4) (by simp [Group.cs, Value.oneCell']) ?_
    intro k9 ht9 hk9
    repeat (first | refine rg_nil ?_ | refine eg_then ?_ | refine cg_ret ?_)
    exact eg_returnC rfl rfl rfl (cells_at (vs := ({ g with l := delN n g.l } : Group).cs a' c') hk9 rfl) rfl ⟨a', c', rfl, GrpR.sl hpc (hrow.turnY ht9 hk84 (by decide)) (ht9 k2 hle8 (by
      cases hc : k2 b4 with
      | none => rfl
      | some ob => rw [hb4] at hc; cases hc))⟩
  have hlt : i < g.l.length := by have := of_decide_eq_true h; omega
  cases z1 : ((i : Int) == n)
  rotate_left
  · have z1 : (i : Int) = n := by simpa using z1
    repeat (first | refine cg_seq ?_ | refine cg_region ?_ | refine rg_nil ?_ | refine eg_then ?_ | refine qsp ?_ | refine cg_skip ?_ | refine cg_block ?_)
    rw [show ((i : Int) != n) = false by simp [z1]]
    repeat (first | refine cg_region ?_ | refine rg_nil ?_ | refine eg_then ?_ | refine qsp ?_ | refine qsa ?_ | refine cg_cond_false rfl ?_ | refine cg_skip ?_ | refine eg_in_normal ?_)
    exact eg_again (i + 1) _ ⟨v, css, hle8, hap, by rw [delN_at hlt z1]; exact hpc, by rw [delN_at hlt z1]; exact hrow, hk84, hk85, hlt, rfl⟩ (by omega) ⟨rfl, rfl, rfl, rfl, rfl, trivial⟩
  have z1 : (i : Int) ≠ n := by simpa using z1
  have hdn := delN_keep hlt z1
  have hdl := delN_len n (g.l.take i)
  have hti : (g.l.take i).length = i := by rw [List.length_take]; omega
  obtain ⟨bx, ox, cx, ea, ⟨a0, c0, a1, c1, rfl, hsl, hmok⟩, hcx⟩ := hl2.el i g.l[i] (List.getElem?_eq_getElem hlt)
  have hrep : tMember.rep k2 (g.l[i].cs a0 c0 a1 c1) g.l[i] := ⟨a0, c0, a1, c1, rfl, hsl, hmok⟩
  obtain ⟨m, hm⟩ : ∃ m, g.l[i] = m := ⟨_, rfl⟩
  rw [hm] at hcx hrep hdn
  subst ea
  have hHd : Le k2 (delV k8 v) := le_delV hle8 hap
  have hv4 : v.ownBlock ≠ some b4 := hrow.owner1 hk84 (by decide)
  have hv5 : v.ownBlock ≠ some b5 := hrow.owner1 hk85 (by decide)
  have dk4 : delV k8 v b4 = _ := (delV_of hv4).trans hk84
  have dk5 : delV k8 v b5 = _ := (delV_of hv5).trans hk85
  have p3 := p3'.le hHd
  have c6 := hcx.le hHd
  have ck := (cells_at (vs := gV g v) dk5 rfl).one (i := 3) rfl
  have e1 := Member.one k2 _ m hrep
  repeat (first | refine cg_seq ?_ | refine cg_region ?_ | refine rg_nil ?_ | refine eg_then ?_ | refine qsp ?_ | refine cg_skip ?_ | refine cg_block ?_)
  rw [show ((i : Int) != n) = true by simp [z1]]
  repeat (first | refine cg_cond_true rfl ?_)
  refine cg_grow 10 8 v hrow (by kernel_rfl) (by kernel_rfl) rfl (by kernel_rfl) rfl ?_
  dsimp only [List.take]
  repeat (first | refine qcp ?_ | refine qci ?_ | refine qcl ?_ | refine qcg ?_ | refine qcf ?_)
  refine wc_v rfl (loc_alloc rfl (a_slice (cells := m.cs a0 c0 a1 c1) rfl rfl rfl rfl (by kernel_rfl) rfl)) rfl ?_
  refine wc_e 0 rfl (eff_grow2 (j := 1) (news := m.cs a0 c0 a1 c1) rfl rfl rfl rfl rfl (fun k1 u _ ⟨b, hu, hkb, _⟩ => ⟨b, 0, 1, hu, cells_at hkb rfl⟩) rfl e1 (by kernel_rfl) rfl (by unfold maxLen; omega) (by omega)) ?_
  repeat (first | refine qcf ?_)
  refine wc_nil ?_
  intro k11 vs hle11 hvs
  obtain ⟨hrow11, hap11⟩ : Row F.w0.heap.size k11 44 6 (vs 27) ((delN n (g.l.take i)).length + 1) (css.flatten ++ m.cs a0 c0 a1 c1) ∧ Apart (delV k8 v) (vs 27) := hvs 27 _ rfl
  clear hvs
  dsimp only [List.drop, set, argEnv, nameE, nameP]
  generalize vs 27 = v' at hrow11 hap11 ⊢
  have hk11 := hle11 _ _ dk5
  have hk114 := hle11 _ _ dk4
  refine rw0 rfl rfl rfl rfl rfl rfl hrow11.oneV1 rfl hk11 (by show _ < 4; omega) (.inl hN5) ?_; intro k12 ht12 hk12
  repeat (first | refine cg_region ?_ | refine rg_nil ?_ | refine eg_then ?_ | refine qsp ?_ | refine qsa ?_ | refine eg_in_normal ?_)
  refine eg_again (i + 1) _ ⟨v', css ++ [m.cs a0 c0 a1 c1], ht12 _ (hHd.trans hle11) k2b5, ?_, ?_, ?_, turn1_get ht12 n45 hk114, hk12, hlt, rfl⟩ (by omega) ⟨rfl, rfl, rfl, rfl, rfl, trivial⟩
  · intro gg hgg
    cases hc : k2 gg with
    | none => rfl
    | some ob => have := hap11 gg hgg; rw [hHd _ _ hc] at this; cases this
  · rw [hdn]; exact hpc.append (Pieces.one hrep)
  · rw [hdn]; simpa using hrow11.turnY ht12 hk11 (by decide)
end Go.Wm
namespace Go.Wm
open Go.RowKit Go.Proofs
def aboveM (x y : Member) : Bool := decide (cmpStr x.id y.id < 0)
def posW (x : Member) (l : List Member) : Nat := l.findIdx (aboveM x)
def withM (x : Member) (l : List Member) : List Member := l.take (posW x l) ++ x :: l.drop (posW x l)
/-- What is there behind i steps. -/
def curW (x : Member) (l : List Member) (i : Nat) : List Member := if posW x l < i then l.take (posW x l) ++ x :: (l.take i).drop (posW x l) else l.take i
attribute [local irreducible] RG CG EG WA Loc Det Alc CT Exit.then Exit.inBlock Code.wp bodyPost
end Go.Wm
-- cut by zcut
namespace Go.Wm
open Go.RowKit Go.Proofs
def tellW (g : Group) (n : Int) (x : Member) : Group := { g with l := withM x (delN n g.l), state := stateG (withM x (delN n g.l)) }
/-- What the document does when it is known what the member has, and who goes for it. -/
def finR (g : Group) (n : Int) (x : Member) (b : Bool) : Group × Int := if b = true then (if 1048576 ≤ g.gen then (noG, 2) else (tellW (roundG g) n x, 0)) else (tellW g n x, 0)
theorem pos_at {id : ByteArray} {l : List Member} {i : Nat} (h : RightP ordId memOk l) (hi : i < l.length) (hid : l[i].id = id) : posF (byId id) l = i := by
  obtain ⟨_, h2⟩ := right_all.1 h
  refine posF_eq (Nat.le_of_lt hi) (fun q hq hlt => ?_) (fun _ => ?_)
  · have := List.pairwise_iff_getElem.1 h2 q i hq hi hlt
    show cmpStr l[q].id id < 0
    rw [← hid]; exact this
  · show ¬ cmpStr l[i].id id < 0
    rw [hid, cmpStr_eq.2 rfl]; omega
section
variable {g : Group} {m : Member} {now : Int}
end
end Go.Wm
namespace Go.Wm
open Go.RowKit Go.Proofs
attribute [local irreducible] RG CG EG WA Loc Det Alc CT Exit.then Exit.inBlock Code.wp bodyPost
set_option maxHeartbeats 1000000 in
theorem refFence_ct {k : PH} {g : Group} {a : Option Addr} {c : Nat} (hl : Sl tMember k a c g.l) (hok : g.ok) (id : ByteArray) (gen : Int) : CT Tryz.prog 18 #[.agg (g.cs a c).toArray, .string id, .int .i64 gen] k (fun _ v => v = .int .i64 (fenceG g id gen)) := by
  refine ct_of_body (l := [_, _, _]) Tryz.func18 rfl Tryz.ntmps18 (by simp) (fun _ _ _ _ h => h) fun F hF0 hFm => ?_
  have b1 := hl.cap; have b2 := hl.max; unfold maxLen at b2
  repeat (first | refine cg_seq ?_ | refine cg_region ?_)
  refine rb rfl rfl rfl rfl (a_box rfl rfl) ?_; intro b3 k3 hb3 hN3 hle3 hk3
  have d3 := cells_at (vs := g.cs a c) hk3 rfl
  have hl3 := hl.le hle3
  repeat (first | refine cg_seq ?_ | refine cg_region ?_ | refine rg_nil ?_ | refine eg_then ?_ | refine qsp ?_ | refine qsg ?_)
  refine rs rfl rfl (loc_call_is rfl rfl rfl rfl (refCheck_ct hl3 hok)) ?_
  unfold fenceG
  repeat (first | refine cg_seq ?_ | refine cg_region ?_ | refine rg_nil ?_ | refine eg_then ?_ | refine qsp ?_)
  cases z0 : (chkG g != 0)
  case true =>
    repeat (first | refine cg_seq ?_ | refine cg_region ?_ | refine rg_nil ?_ | refine eg_then ?_ | refine qsp ?_ | refine cg_cond_true rfl ?_ | refine cg_ret ?_ | refine eg_then_ret ?_)
    refine eg_return rfl rfl ?_
    rw [if_pos (by simpa using z0)]
  have z0 : chkG g = 0 := by simpa using z0
  rw [if_neg (fun h => h z0)]
  repeat (first | refine cg_seq ?_ | refine cg_region ?_ | refine eg_then ?_ | refine qsp ?_ | refine qsg ?_ | refine cg_cond_false rfl ?_ | refine cg_skip ?_)
  refine rs rfl rfl (loc_call_is rfl rfl rfl rfl (refFind_ct hl3 id)) ?_
  have hix := idx_has (id := id) (l := g.l)
  repeat (first | refine rg_nil ?_ | refine eg_then ?_ | refine qsp ?_)
  cases z1 : hasId id g.l
  · have z2 : decide (idxF g.l (fun m => decide (m.id = id)) < 0) = true := by
      rw [z1] at hix
      have := of_decide_eq_false hix
      exact decide_eq_true (by omega)
    rw [z2]
    repeat (first | refine cg_seq ?_ | refine cg_region ?_ | refine rg_nil ?_ | refine eg_then ?_ | refine qsp ?_ | refine cg_cond_true rfl ?_ | refine cg_ret ?_ | refine eg_then_ret ?_)
    refine eg_return rfl rfl ?_
    rw [if_pos rfl]
  have z2 : decide (idxF g.l (fun m => decide (m.id = id)) < 0) = false := by
    rw [z1] at hix
    have := of_decide_eq_true hix
    exact decide_eq_false (by omega)
  rw [z2, if_neg (by decide)]
  have p1 := (Group.parts d3).2.1
  clear d3
  repeat (first | refine cg_seq ?_ | refine cg_region ?_ | refine rg_nil ?_ | refine eg_then ?_ | refine qsp ?_ | refine qsl ?_ | refine qsf ?_ | refine cg_cond_false rfl ?_ | refine cg_skip ?_)
  cases z3 : (gen != g.gen)
  · have z3 : gen = g.gen := by simpa using z3
    repeat (first | refine cg_seq ?_ | refine cg_region ?_ | refine rg_nil ?_ | refine eg_then ?_ | refine qsp ?_ | refine cg_cond_false rfl ?_ | refine cg_skip ?_ | refine cg_ret ?_)
    refine eg_return rfl rfl ?_
    rw [if_neg (fun h => h z3)]
  · have z3 : gen ≠ g.gen := by simpa using z3
    repeat (first | refine cg_seq ?_ | refine cg_region ?_ | refine rg_nil ?_ | refine eg_then ?_ | refine qsp ?_ | refine cg_cond_true rfl ?_ | refine cg_ret ?_ | refine eg_then_ret ?_)
    refine eg_return rfl rfl ?_
    rw [if_pos z3]
end Go.Wm
namespace Go.Wm
open Go.RowKit
def X3 (N da : Nat) (ty : TypeId) (c0 : Array Value) (kr : PH) (Ψ : PH → List Value → Prop) : Nat → (Nat → Value) → PH → World → Prop := fun s tm k w => N ≤ w.heap.size ∧
  (s = 1 → ∃ b, tm da = .pointer (some ⟨b, 0, none⟩) ∧ N ≤ b ∧ b < w.heap.size ∧ k b = none ∧ w.heap[b]? = some (.cells c0 ty (0, 0))) ∧
  (s = 2 → ∃ b vs k0, tm da = .pointer (some ⟨b, 0, none⟩) ∧ N ≤ b ∧ b < w.heap.size ∧ k b = none ∧ w.heap[b]? = some (.cells vs.toArray ty (0, 0)) ∧ Ψ k0 vs ∧ Le kr k0 ∧ (∀ i o, k0 i = some o → i < w.heap.size ∧ k i = some o))
section
variable {P : Program} {F : Fr} {n : Nat} {ops : Array Oper} {Q : Exit → Act → World → Prop} {rest : List Oper} {o : Oper} {e : Env} {k : PH}
theorem cg_newsto {id : Nat} {l : List Oper} [hm : Mixed P] (m0 ja js da : Nat) (ty : TypeId) (c0 : Array Value) (Ψ : PH → List Value → Prop) (hok : okAny n l = true) (htail : tailOk m0 l = true) (hml : Nat.ble m0 l.length = true) (hch : chainOk (masks l []) [ja, js] m0 = true) (hda : ((l.take m0)[ja]?).bind (·.dst) = some da) (hdet : det e = true)
    (h : WC P F n l.toArray (masks l []) [ja, js] k (X3 F.w0.heap.size da ty c0 k Ψ) (fun e' => ∀ k0 k' vs b cells, Le k k0 → Ψ k0 cells → Le k0 k' → k' b = none → F.w0.heap.size ≤ b → vs da = .pointer (some ⟨b, 0, none⟩) → (∀ t p, get e' t = some p → p.holds k' (vs t)) → RG P F n l.toArray Q (l.drop m0) (nameE vs e') (upd k' b (.cells cells.toArray ty (0, 0)))) 0 (l.take m0) e) :
    CG P F n Q (.region id l.toArray true) e k := by
  intro a w ha hs
  have hlen : (l.take m0).length = m0 := by
    have := Nat.le_of_ble_eq_true hml
    simp; omega
  have hsplit : l.take m0 ++ l.drop m0 = l := List.take_append_drop m0 l
  generalize hA : l.take m0 = A at *
  generalize hT : l.drop m0 = T at *
  subst hlen
  rw [← hsplit] at hok htail hch h ⊢
  refine region_chain (F := F) (k := k) hm.eq hok htail hch (fun s tm k w k' w' hb hag hX => ⟨Nat.le_trans hX.1 hb.size, fun h0 => ?s1, fun h0 => ?s2⟩) ?same (fun t q hg => by obtain ⟨v, rfl⟩ := det_get hdet hg; trivial) ha hs ⟨hs.size, fun h => by omega, fun h => by omega⟩
    (WC.mono (fun e' hK k' a' w' hle hag hst hX => ?main) A 0 e h)
  case s1 =>
    obtain ⟨b, h1, h2, h3, h4, h5⟩ := hX.2.1 h0
    exact ⟨b, h1, h2, Nat.lt_of_lt_of_le h3 hb.size, (hag b h3).trans h4, (hb.block b h3).trans h5⟩
  case s2 =>
    obtain ⟨b, vs, k0, h1, h2, h3, h4, h5, h6, h7, h8⟩ := hX.2.2 h0
    exact ⟨b, vs, k0, h1, h2, Nat.lt_of_lt_of_le h3 hb.size, (hag b h3).trans h4, (hb.block b h3).trans h5, h6, h7, fun i o hi => ⟨Nat.lt_of_lt_of_le (h8 i o hi).1 hb.size, (hag i (h8 i o hi).1).trans (h8 i o hi).2⟩⟩
  case same =>
    intro s tm tm' k w hsame hX
    have key : 1 ≤ s → tm' da = tm da := fun hs1 => by
      cases hAo : A[ja]? with
      | none => rw [hAo] at hda; cases hda
      | some oo => rw [hAo] at hda; exact hsame 0 ja oo da (by omega) rfl hAo hda
    refine ⟨hX.1, fun h0 => ?_, fun h0 => ?_⟩
    · rw [key (by omega)]; exact hX.2.1 h0
    · rw [key (by omega)]; exact hX.2.2 h0
  case main =>
    obtain ⟨b, cells, k0, h1, h2, h3, h4, h5, h6, h7, h8⟩ := hX.2.2 rfl
    have hst' : St F (upd k' b (.cells cells.toArray ty (0, 0))) w' := hst.turn (w' := w') (.inl h2) rfl rfl rfl (Nat.le_refl _) h5 fun i _ _ => rfl
    refine hK k0 k' (fun t => a'.tmps.getD t undef) b cells h7 h6 (fun i o hi => (h8 i o hi).2) h4 h2 h1 (fun t p hp => hag.get t p hp) a' w' ⟨hag.size, hag.defers, fun t q hq => ?_⟩ hst'
    rw [nameE_get] at hq
    cases hg : get e' t with
    | none => rw [hg] at hq; cases hq
    | some p =>
      rw [hg] at hq
      cases hq
      have := hag.get t p hg
      cases p with
      | is v => exact this
      | such φ => rfl
/-- The block is made. -/
theorem eff_new3 {ty : TypeId} {z : Value} {c0 : Array Value} {kr : PH} {Ψ : PH → List Value → Prop} {da : Nat} (hd : o.dst = some da) (hf : Nat.blt da n = true) (hg : o.guard = none) (ha : Alc P e k o (fun b => .pointer (some ⟨b, 0, none⟩)) (.cells z.cells ty (0, 0))) (hz : z.cells = c0) :
    EffS P F n ops (X3 F.w0.heap.size da ty c0 kr Ψ) 0 o e k (.such fun _ v => ∃ b, v = .pointer (some ⟨b, 0, none⟩)) := by
  refine ⟨fun _ _ _ _ h => h, hg, fun a w k1 hk hs hX hsz hlo => ?_⟩
  subst hz
  have hrun := ha a.eval w (evs_of hlo) (hs.sub.mono hk)
  refine (ex_value hrun).mono ?_
  rintro u w' ⟨rfl, rfl⟩
  have hbel := below_alloc w (.cells z.cells ty (0, 0))
  have hs' := hs.below hbel
  refine ⟨k1, Le.refl _, hs', ⟨hs'.size, fun _ => ?_, fun h => by omega⟩, _, rfl⟩
  have et' : tmsOf (a.put o.dst (.pointer (some ⟨w.heap.size, 0, none⟩))) da = .pointer (some ⟨w.heap.size, 0, none⟩) := by rw [hd]; exact put_getD_same (by rw [hsz]; simpa [Nat.blt_eq] using hf)
  exact ⟨w.heap.size, et', hs.size, by show w.heap.size < (w.heap.push _).size; simp, hs.sub.none (Nat.le_refl _), by show (w.heap.push _)[w.heap.size]? = _; simp⟩
/-- What a slot holds is stored over it. -/
theorem eff_sto3 {t ty : TypeId} {da dv sz bs : Nat} {z : Value} {c0 : Array Value} {kr : PH} {Ψ : PH → List Value → Prop} {φ ψ : PH → Value → Prop} [hi : TyI P t sz bs z] (hdn : o.dst = none) (hg : o.guard = none) (hkr : Le kr k) (hop : o.op = .store t (.tmp da) (.tmp dv)) (ha : get e da = some (.such ψ)) (hv : get e dv = some (.such φ)) (hφ : ∀ k u, φ k u → ∃ vs : List Value, u = .agg vs.toArray ∧ Ψ k vs ∧ vs.length = sz ∧ ∀ x ∈ vs, x.oneCell' = true) (hc : c0.size = sz) :
    EffS P F n ops (X3 F.w0.heap.size da ty c0 kr Ψ) 1 o e k (.is undef) := by
  refine ⟨trivial, hg, fun a w k1 hk hs hX hsize hlo => ?_⟩
  obtain ⟨b, g1, g2, g3, g4, g5⟩ := hX.2.1 rfl
  have hdv : dv ∈ o.looksAt ops := by
    unfold Oper.looksAt
    refine List.mem_append.2 (.inl ?_)
    rw [List.mem_filterMap]
    exact ⟨.tmp dv, by simp [hop, Op.operands], rfl⟩
  have hu := hlo dv hdv _ hv
  have e2 : a.eval (.tmp dv) = a.tmps.getD dv undef := rfl
  have e1 : a.eval (.tmp da) = .pointer (some ⟨b, 0, none⟩) := g1
  generalize a.tmps.getD dv undef = u at hu e2
  obtain ⟨vs, rfl, hΨ, hl, h1⟩ := hφ _ _ hu
  obtain ⟨inf, hi1, hi2, _⟩ := hi.eq
  have hst := run_storeCells_at P b 0 ty vs 0 c0 w g5 (by omega) h1
  simp only [Nat.add_zero, Nat.zero_add] at hst
  have hrow : (c0.toList.take 0 ++ vs ++ c0.toList.drop vs.length).toArray = vs.toArray := by
    rw [List.drop_eq_nil_of_le (by simp; omega)]; simp
  have hrun : (execOp a.eval o).run P w = .ok .skip (w.setRow b vs.toArray) := by
    rw [← hrow]
    simp [execOp, hop, e1, e2, Instr.storeAt, Instr.sureAddr, storeVar, Value.cells, run_size hi1, hi2, hl, hst]
  have hh : (w.setRow b vs.toArray).heap = w.heap.setIfInBounds b (.cells vs.toArray ty (0, 0)) := by
    apply Array.ext_getElem?
    intro i
    by_cases hib : i = b
    · subst hib
      rw [setRow_heap w i c0 vs.toArray ty (0, 0) g5, heap_setObj g5]
    · rw [setRow_other w b i _ hib, Array.getElem?_setIfInBounds, if_neg (Ne.symm hib)]
  have hwb : (w.setRow b vs.toArray).heap[b]? = some (.cells vs.toArray ty (0, 0)) := setRow_heap w b c0 vs.toArray ty (0, 0) g5
  have hoth : ∀ i, i ≠ b → (w.setRow b vs.toArray).heap[i]? = w.heap[i]? := fun i hib => setRow_other w b i _ hib
  have hsz' : (w.setRow b vs.toArray).heap.size = w.heap.size := by rw [hh]; simp
  have hst2 := hs.turn (w' := w.setRow b vs.toArray) (.inl g2) rfl rfl rfl (by rw [hsz']; exact Nat.le_refl _) hwb (fun i hi _ => hoth i hi)
  refine (ex_skip hrun).mono ?_
  rintro u' w' ⟨rfl, rfl⟩
  refine ⟨k1, Le.refl _, hst2.weak ((Le.refl k1).upd g4) hs.keep, ⟨by rw [hsz']; exact hX.1, fun h => by omega, fun _ => ?_⟩, rfl⟩
  have et' : tmsOf (a.put o.dst undef) da = tmsOf a da := by
    rw [hdn]; rfl
  exact ⟨b, vs, k1, by rw [et']; exact g1, g2, by rw [hsz']; exact g3, g4, hwb, hΨ, hkr.trans hk, fun i ob hb => ⟨by rw [hsz']; exact hs.sub.lt hb, hb⟩⟩
end
end Go.Wm
namespace Go.Wm
open Go.RowKit
/-- What a call has told that was made with less than is known. -/
def Und (h kq : PH) (φ : PH → Value → Prop) : PH → Value → Prop := fun k v => ∃ k2, Le h k2 ∧ (∀ b o, kq b = some o → k2 b = h b) ∧ Le k2 k ∧ φ k2 v
theorem Und.mono {h kq : PH} {φ : PH → Value → Prop} : (PV.such (Und h kq φ)).Mono := fun k k' v hle ⟨k2, h1, h2, h3, h4⟩ => ⟨k2, h1, h2, h3.trans hle, h4⟩
theorem Und.imp {h kq k : PH} {φ ψ : PH → Value → Prop} {v u : Value} (hu : Und h kq φ k v) (hi : ∀ k, φ k v → ψ k u) : Und h kq ψ k u := by
  obtain ⟨k2, h1, h2, h3, h4⟩ := hu
  exact ⟨k2, h1, h2, h3, hi _ h4⟩
theorem loci_hct {P : Program} {n : Nat} {ops : Array Oper} {o : Oper} {e : Env} {k kq h : PH} {I : PH → World → Prop} {x : Operand} {args : Array Operand} {ats : Array TypeId} {g : FuncId} {first cap : Array Value} {vs : List Value} [FnOk P g] {φ : PH → Value → Prop}
    (hg : wantedE ops e o = some true) (hop : o.op = .call { callee := .value x, args := args, argTypes := ats }) (hx : opv e x = some (.func (.func g) first cap)) (ha : opvs e args.toList = some vs) (hkq : Le kq k) (hle : Le h k) (hct : CT P g (first ++ vs.toArray ++ cap) h φ) : LocI P n ops I o e k (.such (Und h kq φ)) := by
  refine ⟨Und.mono, fun a w k1 hk hs hi _ hl => ?_⟩
  rw [if_pos (wanted_of hl hg)]
  refine ex_enter (run_call hop hx ha (evs_of hl)) ((hct w h (Le.refl _) (hs.mono (hle.trans hk))).mono ?_)
  rintro en w' ⟨v, k2, h1, h2, h3, h4, h5⟩
  have hag' : Agr w.heap.size k1 (fun b => if b < w.heap.size then k1 b else k2 b) := fun b hb => by simp [hb]
  have hsub' : Sub (fun b => if b < w.heap.size then k1 b else k2 b) w' := fun b ob hb => by
    by_cases hbl : b < w.heap.size
    · simp only [hbl, if_true] at hb
      rw [h2.block b hbl]; exact hs b ob hb
    · simp only [hbl, if_false] at hb
      exact h4 b ob hb
  refine ⟨v, h1, fun b => if b < w.heap.size then k1 b else k2 b, h2, hag', hsub', k2, h3.le (hs.mono (hle.trans hk)), fun b o hb => h3 b (hs.lt (hk _ _ (hkq _ _ hb))), fun b ob hb => ?_, h5⟩
  by_cases hbl : b < w.heap.size
  · simp only [hbl, if_true]
    have := h3 b hbl
    rw [this] at hb
    exact (hle.trans hk) b ob hb
  · simp only [hbl, if_false]; exact hb
end Go.Wm
namespace Go.Wm
open Go.RowKit Go.Proofs
def runW (l : List Member) (tps : List Tp) : Nat → List Int → Option (List Int)
  | 0, _ => none
  | n + 1, w => match stepM l tps w with
    | none => some w
    | some w' => runW l tps n w'
theorem runW_moved {l : List Member} {tps : List Tp} {a : List Int} : ∀ {n : Nat} {w w0 : List Int}, Moved l tps a w → runW l tps n w = some w0 → Moved l tps a w0 ∧ stepM l tps w0 = none
  | 0, w, w0, hm, h => by cases h
  | n + 1, w, w0, hm, h => by
    unfold runW at h
    cases hs : stepM l tps w with
    | none => rw [hs] at h; cases h; exact ⟨hm, hs⟩
    | some w' => rw [hs] at h; exact runW_moved (.step hm hs) h
theorem sync_val {g : Group} {id : ByteArray} {gen now : Int} {tps : List Tp} {x : Group} {own : List Tp} {e : Int} (h : SyncR g id gen now tps x own e) (hz : syncE g id gen now tps = 0) {n : Nat} {w0 : List Int} (hr : runW g.l tps n (fillW g.l tps (wInit g.l tps) tps.length) = some w0) :
    own = gotS g.l tps w0 (posF (byId id) g.l) ∧ x = { g with l := setAt (posF (byId id) g.l) (setOwn (gotS g.l tps w0 (posF (byId id) g.l)) now) g.l } ∧ e = 0 := by
  obtain ⟨w, h1, h2, h3, h4⟩ := h.yes hz
  obtain ⟨m1, m2⟩ := runW_moved (.refl _) hr
  have : w = w0 := h1.moved.same m1 h1.still m2
  subst this
  exact ⟨h2, by rw [h3, h2], h4⟩
def tG : ByteArray := ⟨#[103]⟩
def tA : ByteArray := ⟨#[97]⟩
def tB : ByteArray := ⟨#[98]⟩
def tC : ByteArray := ⟨#[99]⟩
def tT : ByteArray := ⟨#[116]⟩
def tN : ByteArray := ⟨#[]⟩
def xP0 : Tp := ⟨tT, 0, 0⟩
def xP1 : Tp := ⟨tT, 1, 0⟩
def xBoth : List Tp := [xP0, xP1]
def xm (id : ByteArray) (own : List Tp) : Member := ⟨id, tN, [tT], own, false, 0⟩
def xg0 : Group := ⟨tG, 0, 0, []⟩
def xga : Group := ⟨tG, 1, 2, [⟨tA, tN, [tT], [], true, 1⟩]⟩
def xgb : Group := ⟨tG, 1, 2, [⟨tA, tN, [tT], xBoth, true, 2⟩]⟩
def xgc : Group := ⟨tG, 2, 1, [⟨tA, tN, [tT], xBoth, false, 2⟩, ⟨tB, tN, [tT], [], true, 3⟩]⟩
def xgd : Group := ⟨tG, 2, 2, [⟨tA, tN, [tT], xBoth, true, 5⟩, ⟨tB, tN, [tT], [], true, 3⟩]⟩
def xgx : Group := ⟨tG, 2, 2, [⟨tA, tN, [tT], [xP1], true, 7⟩, ⟨tB, tN, [tT], [], true, 3⟩]⟩
set_option maxRecDepth 100000
theorem ex_new : newG tG = (xg0, 0) := by decide +kernel
theorem ex_a : joinG xg0 (xm tA []) 1 = (xga, 0) := by decide +kernel
theorem ex_c : joinG xgb (xm tB []) 3 = (xgc, 0) := by decide +kernel
theorem ex_k : (beatG xgc tA 1 4).2 = 232 := by decide +kernel
theorem ex_d : joinG xgc (xm tA xBoth) 5 = (xgd, 0) := by decide +kernel
theorem ex_b {x : Group} {own : List Tp} {e : Int} (h : SyncR xga tA 1 2 xBoth x own e) : x = xgb ∧ own = xBoth ∧ e = 0 := by
  obtain ⟨h1, h2, h3⟩ := sync_val h (by decide +kernel) (n := 3) (w0 := [0, 0]) (by decide +kernel)
  exact ⟨h2.trans (by decide +kernel), h1.trans (by decide +kernel), h3⟩
theorem ex_f {x : Group} {own : List Tp} {e : Int} (h : SyncR xgd tB 2 6 xBoth x own e) : own = [] ∧ e = 0 := by
  obtain ⟨h1, h2, h3⟩ := sync_val h (by decide +kernel) (n := 3) (w0 := [1, 0]) (by decide +kernel)
  exact ⟨h1.trans (by decide +kernel), h3⟩
theorem ex_x {x : Group} {own : List Tp} {e : Int} (h : SyncR xgd tA 2 7 xBoth x own e) : x = xgx ∧ own.length = 1 ∧ e = 0 := by
  obtain ⟨h1, h2, h3⟩ := sync_val h (by decide +kernel) (n := 3) (w0 := [1, 0]) (by decide +kernel)
  exact ⟨h2.trans (by decide +kernel), by rw [h1]; decide +kernel, h3⟩
theorem ex_y {x : Group} {own : List Tp} {e : Int} (h : SyncR xgx tB 2 8 xBoth x own e) : own.length = 1 ∧ e = 0 := by
  obtain ⟨h1, h2, h3⟩ := sync_val h (by decide +kernel) (n := 3) (w0 := [1, 0]) (by decide +kernel)
  exact ⟨by rw [h1]; decide +kernel, h3⟩
theorem ex_f1 : fenceG xgd tA 1 = 231 := by decide +kernel
theorem ex_f2 : fenceG xgd tA 2 = 0 := by decide +kernel
theorem ex_f3 : fenceG xgd tC 2 = 230 := by decide +kernel
theorem ex_chk : chkG xgd = 0 := by decide +kernel
end Go.Wm

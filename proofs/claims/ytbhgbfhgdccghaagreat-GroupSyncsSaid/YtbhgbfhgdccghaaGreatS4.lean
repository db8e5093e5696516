/-
  The document's Sync. Conditions: that what is handed in reads as data.
-/
import Derived.Test.YtbhgbfhgdccghaaGreatQ3
import Derived.Test.YtbhgbfhgdccghaaGreatQ6
import Derived.Test.YtbhgbfhgdccghaaGreatN12
set_option linter.all false
namespace Go.Wm
open Go.RowKit Go.Proofs
theorem Und.none {h kq k : PH} {b : Nat} {ob : Obj} {φ : PH → Value → Prop} {v : Value} (hu : Und h kq φ k v) (hb : h b = none) (hk : kq b = some ob) : ∃ k2, Le h k2 ∧ k2 b = none ∧ Le k2 k ∧ φ k2 v := by
  obtain ⟨k2, h1, h2, h3, h4⟩ := hu
  exact ⟨k2, h1, (h2 _ _ hk).trans hb, h3, h4⟩
attribute [local irreducible] RG CG EG WA Loc Det Alc CT Exit.then Exit.inBlock Code.wp bodyPost
set_option maxHeartbeats 8000000 in
theorem refSync_ct {k : PH} {g : Group} {a : Option Addr} {c : Nat} (hl : Sl tMember k a c g.l) (hok : g.ok) (hsm : SmallG g) {tps : List Tp} {ta : Option Addr} {tc : Nat} (ht : Sl tTp k ta tc tps) (hbt : tps.length ≤ 10000) (id : ByteArray) (gen now : Int) (hI : I64 now) :
    CT Tryz.prog 8 #[.agg (g.cs a c).toArray, .string id, .int .i64 gen, .int .i64 now, .slice ta tps.length tc] k (SynV g id gen now tps) := by
  refine ct_of_body (l := [_, _, _, _, _]) Tryz.func8 rfl Tryz.ntmps8 (by simp) SynV.mono fun F hF0 hFm => ?_
  have b1 := hl.cap; have b2 := hl.max; unfold maxLen at b2
  repeat (first | refine cg_seq ?_ | refine cg_region ?_)
  refine rb rfl rfl rfl rfl (a_box rfl rfl) ?_; intro b5 k5 hb5 hN5 hle5 hk5
  refine rb rfl rfl rfl rfl (a_alloc rfl) ?_; intro b10 k10 hb10 hN10 hle10 hk10
  have d5 := (cells_at (vs := g.cs a c) hk5 rfl).le hle10
  have hl5 := hl.le hle5
  have hl10 := hl5.le hle10
  have ht5 := ht.le hle5
  have ht10 := ht5.le hle10
  repeat (first | refine cg_seq ?_ | refine cg_region ?_ | refine rg_nil ?_ | refine eg_then ?_ | refine qsp ?_ | refine qsg ?_)
  refine rs rfl rfl (loc_call_is rfl rfl rfl rfl (refCheck_ct hl10 hok)) ?_
  repeat (first | refine cg_seq ?_ | refine cg_region ?_ | refine rg_nil ?_ | refine eg_then ?_ | refine qsp ?_)
  cases z0 : (chkG g != 0)
  case true =>
    have hn : chkG g ≠ 0 := by simpa using z0
    have he : syncE g id gen now tps = chkG g := by unfold syncE; rw [if_pos hn]
    repeat (first | refine cg_seq ?_ | refine cg_region ?_ | refine cg_cond_true rfl ?_)
    refine rs rfl rfl (loc_det rfl (d_lit (cells := noG.cs none 0) rfl rfl rfl)) ?_
    repeat (first | refine qsp ?_)
    refine rw1 (vs := noG.cs none 0) rfl rfl rfl rfl rfl rfl rfl hk10 rfl (.inl hN10) (by simp [Group.cs, Value.oneCell']) ?_
    intro k9 ht9 hk9
    repeat (first | refine rg_nil ?_ | refine eg_then ?_ | refine qsp ?_ | refine cg_ret ?_ | refine eg_then_ret ?_)
    exact eg_returnC3 rfl rfl rfl rfl rfl (cells_at (vs := noG.cs none 0) hk9 rfl) rfl ⟨noG, [], _, none, 0, none, 0, rfl, sl_nilM _, sl_nilTp _, fun _ => ⟨rfl, rfl, he.symm⟩, fun h => absurd (he.symm.trans h) hn⟩
  have z0 : chkG g = 0 := by simpa using z0
  have hck := chk_all z0
  have e0 : syncE g id gen now tps = if (timeOk now && decide (RightP ordTp tpOk tps)) = false then 1 else if hasId id g.l = false then 230 else if g.state = 1 then 232 else if gen ≠ g.gen then 231 else 0 := by unfold syncE; rw [if_neg (fun h => h z0)]
  repeat (first | refine cg_seq ?_ | refine cg_region ?_ | refine eg_then ?_ | refine qsp ?_ | refine cg_cond_false rfl ?_ | refine cg_skip ?_)
  refine rs rfl rfl (loc_call_is rfl rfl rfl rfl (in_ct now)) ?_
  have hn : (1 : Int) ≠ 0 := by decide
  cases z1 : timeOk now
  · have he : syncE g id gen now tps = 1 := by rw [e0, z1, if_pos (show (false && _) = false from rfl)]
    repeat (first | refine cg_seq ?_ | refine cg_region ?_ | refine rg_nil ?_ | refine eg_then ?_ | refine qsp ?_ | refine qso ?_ | refine cg_cond_true rfl ?_)
    refine rs rfl rfl (loc_det rfl (d_lit (cells := noG.cs none 0) rfl rfl rfl)) ?_
    skip
    refine rw1 (vs := noG.cs none 0) rfl rfl rfl rfl rfl rfl rfl hk10 rfl (.inl hN10) (by simp [Group.cs, Value.oneCell']) ?_
    intro k9 ht9 hk9
    repeat (first | refine rg_nil ?_ | refine eg_then ?_ | refine qsp ?_ | refine cg_ret ?_ | refine eg_then_ret ?_)
    exact eg_returnC3 rfl rfl rfl rfl rfl (cells_at (vs := noG.cs none 0) hk9 rfl) rfl ⟨noG, [], _, none, 0, none, 0, rfl, sl_nilM _, sl_nilTp _, fun _ => ⟨rfl, rfl, he.symm⟩, fun h => absurd (he.symm.trans h) hn⟩
  repeat (first | refine qsp ?_)
  refine rs rfl rfl (loc_call_is rfl rfl rfl rfl (inOrder_ct ht10)) ?_
  cases z2 : decide (RightP ordTp tpOk tps)
  · have he : syncE g id gen now tps = 1 := by rw [e0, z1, z2, if_pos (show (true && false) = false from rfl)]
    repeat (first | refine cg_seq ?_ | refine cg_region ?_ | refine rg_nil ?_ | refine eg_then ?_ | refine qsp ?_ | refine cg_cond_true rfl ?_)
    refine rs rfl rfl (loc_det rfl (d_lit (cells := noG.cs none 0) rfl rfl rfl)) ?_
    skip
    refine rw1 (vs := noG.cs none 0) rfl rfl rfl rfl rfl rfl rfl hk10 rfl (.inl hN10) (by simp [Group.cs, Value.oneCell']) ?_
    intro k9 ht9 hk9
    repeat (first | refine rg_nil ?_ | refine eg_then ?_ | refine qsp ?_ | refine cg_ret ?_ | refine eg_then_ret ?_)
    exact eg_returnC3 rfl rfl rfl rfl rfl (cells_at (vs := noG.cs none 0) hk9 rfl) rfl ⟨noG, [], _, none, 0, none, 0, rfl, sl_nilM _, sl_nilTp _, fun _ => ⟨rfl, rfl, he.symm⟩, fun h => absurd (he.symm.trans h) hn⟩
  rw [z1, z2, if_neg (show ¬ (true && true) = false by decide)] at e0
  have htp := of_decide_eq_true z2
  clear hn
  repeat (first | refine cg_seq ?_ | refine cg_region ?_ | refine rg_nil ?_ | refine eg_then ?_ | refine qsp ?_ | refine qsg ?_ | refine cg_cond_false rfl ?_ | refine cg_skip ?_)
  refine rs rfl rfl (loc_call_is rfl rfl rfl rfl (refFind_ct hl10 id)) ?_
  repeat (first | refine cg_seq ?_ | refine cg_region ?_ | refine rg_nil ?_ | refine eg_then ?_ | refine qsp ?_)
  rcases idxF_cases g.l (fun m => decide (m.id = id)) with ⟨hx, hno⟩ | ⟨i, hlt, hx, hat, _⟩
  · have hno : hasId id g.l = false := hasId_false.2 fun y hy => by simpa using hno y hy
    have hn : (230 : Int) ≠ 0 := by decide
    have he : syncE g id gen now tps = 230 := by rw [e0, if_pos hno]
    rw [hx]
    repeat (first | refine cg_seq ?_ | refine cg_region ?_ | refine cg_cond_true rfl ?_)
    refine rs rfl rfl (loc_det rfl (d_lit (cells := noG.cs none 0) rfl rfl rfl)) ?_
    skip
    refine rw1 (vs := noG.cs none 0) rfl rfl rfl rfl rfl rfl rfl hk10 rfl (.inl hN10) (by simp [Group.cs, Value.oneCell']) ?_
    intro k9 ht9 hk9
    repeat (first | refine rg_nil ?_ | refine eg_then ?_ | refine qsp ?_ | refine cg_ret ?_ | refine eg_then_ret ?_)
    exact eg_returnC3 rfl rfl rfl rfl rfl (cells_at (vs := noG.cs none 0) hk9 rfl) rfl ⟨noG, [], _, none, 0, none, 0, rfl, sl_nilM _, sl_nilTp _, fun _ => ⟨rfl, rfl, he.symm⟩, fun h => absurd (he.symm.trans h) hn⟩
  have hid : g.l[i].id = id := by simpa using hat
  have hyes : hasId id g.l = true := hasId_true.2 ⟨g.l[i], List.getElem_mem hlt, hid⟩
  have hpos := pos_at hck.right hlt hid
  have hgi : g.l[i]? = some g.l[i] := List.getElem?_eq_getElem hlt
  obtain ⟨m, hm⟩ : ∃ m, g.l[i] = m := ⟨_, rfl⟩
  rw [hm] at hgi
  rw [hx]
  rw [hyes, if_neg (by decide)] at e0
  have p2 := (Group.parts d5).2.2.1
  repeat (first | refine cg_seq ?_ | refine cg_region ?_ | refine rg_nil ?_ | refine eg_then ?_ | refine qsp ?_ | refine qsl ?_ | refine qsf ?_ | refine cg_cond_false rfl ?_ | refine cg_skip ?_)
  rw [show decide ((i : Int) < 0) = false from decide_eq_false (by omega)]
  skip
  cases z3 : (g.state == 1)
  case true =>
    have z3 : g.state = 1 := by simpa using z3
    have hn : (232 : Int) ≠ 0 := by decide
    have he : syncE g id gen now tps = 232 := by rw [e0, if_pos z3]
    repeat (first | refine cg_seq ?_ | refine cg_region ?_ | refine cg_cond_true rfl ?_)
    refine rs rfl rfl (loc_det rfl (d_lit (cells := noG.cs none 0) rfl rfl rfl)) ?_
    skip
    refine rw1 (vs := noG.cs none 0) rfl rfl rfl rfl rfl rfl rfl hk10 rfl (.inl hN10) (by simp [Group.cs, Value.oneCell']) ?_
    intro k9 ht9 hk9
    repeat (first | refine rg_nil ?_ | refine eg_then ?_ | refine qsp ?_ | refine cg_ret ?_ | refine eg_then_ret ?_)
    exact eg_returnC3 rfl rfl rfl rfl rfl (cells_at (vs := noG.cs none 0) hk9 rfl) rfl ⟨noG, [], _, none, 0, none, 0, rfl, sl_nilM _, sl_nilTp _, fun _ => ⟨rfl, rfl, he.symm⟩, fun h => absurd (he.symm.trans h) hn⟩
  have z3 : g.state ≠ 1 := by simpa using z3
  rw [if_neg z3] at e0
  have p1 := (Group.parts d5).2.1
  repeat (first | refine cg_seq ?_ | refine cg_region ?_ | refine rg_nil ?_ | refine eg_then ?_ | refine qsp ?_ | refine qsl ?_ | refine qsf ?_ | refine cg_cond_false rfl ?_ | refine cg_skip ?_)
  cases z4 : (gen != g.gen)
  case true =>
    have z4 : gen ≠ g.gen := by simpa using z4
    have hn : (231 : Int) ≠ 0 := by decide
    have he : syncE g id gen now tps = 231 := by rw [e0, if_pos z4]
    repeat (first | refine cg_seq ?_ | refine cg_region ?_ | refine cg_cond_true rfl ?_)
    refine rs rfl rfl (loc_det rfl (d_lit (cells := noG.cs none 0) rfl rfl rfl)) ?_
    skip
    refine rw1 (vs := noG.cs none 0) rfl rfl rfl rfl rfl rfl rfl hk10 rfl (.inl hN10) (by simp [Group.cs, Value.oneCell']) ?_
    intro k9 ht9 hk9
    repeat (first | refine rg_nil ?_ | refine eg_then ?_ | refine qsp ?_ | refine cg_ret ?_ | refine eg_then_ret ?_)
    exact eg_returnC3 rfl rfl rfl rfl rfl (cells_at (vs := noG.cs none 0) hk9 rfl) rfl ⟨noG, [], _, none, 0, none, 0, rfl, sl_nilM _, sl_nilTp _, fun _ => ⟨rfl, rfl, he.symm⟩, fun h => absurd (he.symm.trans h) hn⟩
  have z4 : gen = g.gen := by simpa using z4
  rw [if_neg (fun h => h z4)] at e0
  have p3 := (Group.parts d5).2.2.2
  have hfew := hck.few
  clear p1 p2
  repeat (first | refine cg_seq ?_ | refine cg_region ?_ | refine eg_then ?_ | refine qsp ?_ | refine qsl ?_ | refine qsf ?_ | refine cg_cond_false rfl ?_ | refine cg_skip ?_)
  refine rvh rfl rfl rfl rfl rfl rfl rfl hle10 (refTarget_ct hl5 ht5 (by omega) (by omega)) ?_
  rintro kA k11 _ hA1 hA2 hle11 hA3 ⟨a13, c13, r, er, rfl, hr, hT⟩
  obtain ⟨rfl, w, hw13, rfl⟩ := hT.yes (okT_right hck.right htp)
  have kA10 : kA b10 = none := (hA2 _ _ hk10).trans hb10
  have hk11 := hle11 _ _ hk10
  have hwl := hw13.inv.len
  have hsum : lenTo (outM g.l.length tps w) (outM g.l.length tps w).length ≤ 1000000 := by
    have := lenTo_bd (own := outM g.l.length tps w) (B := tps.length) (fun r hr => by
      obtain ⟨j, hj⟩ := List.getElem?_of_mem hr
      exact outM_bd hj) (outM g.l.length tps w).length
    rw [outM_len] at this ⊢
    have h2 : g.l.length * tps.length ≤ 64 * 10000 := Nat.mul_le_mul hfew hbt
    omega
  have p3 := p3.le hle11
  repeat (first | refine cg_seq ?_ | refine cg_region ?_ | refine rg_nil ?_ | refine eg_then ?_ | refine qsp ?_ | refine qsl ?_ | refine qsf ?_ | refine cg_cond_false rfl ?_ | refine cg_skip ?_)
  refine rvh rfl rfl rfl rfl rfl rfl rfl hA3 (refRound22_ct (hl5.le hA1) hr (by omega) hsum) ?_
  rintro kB k12 _ hB1 hB2 hle12 hB3 ⟨a14, c14, r, er, rfl, hr14, hR⟩
  obtain ⟨rfl, rfl⟩ := hR.yes (okR_tgt (okT_right hck.right htp) hw13)
  have kB10 : kB b10 = none := (hB2 _ _ hk11).trans kA10
  have hk12 := hle12 _ _ hk11
  have hrl : (roundM g.l (outM g.l.length tps w)).length = g.l.length := by simp [roundM]
  have hgot : (roundM g.l (outM g.l.length tps w))[i]? = some (gotS g.l tps w i) := by
    unfold gotS
    rw [List.getD_eq_getElem?_getD, List.getElem?_eq_getElem (by omega)]; rfl
  obtain ⟨bx, ox, cx, rfl, hrep, hcx⟩ := hr14.el i _ hgot
  obtain ⟨ag, cg, rfl, hsg⟩ := hrep
  have bl := hr14.cap; have bm := hr14.max; unfold maxLen at bm
  obtain ⟨own, hown⟩ : ∃ own, gotS g.l tps w i = own := ⟨_, rfl⟩
  rw [hown] at hgot hsg hcx
  have hownb : own.length ≤ 10000 := by
    rw [← hown]
    exact Nat.le_trans (gotS_sub hlt hwl).length_le hbt
  have hlB := hl5.le (hA1.trans hB1)
  have d5 := d5.le (hle11.trans hle12)
  clear p3 hr hA2 hB2
  repeat (first | refine cg_seq ?_ | refine cg_region ?_ | refine rg_nil ?_ | refine eg_then ?_ | refine qsp ?_ | refine qsg ?_ | refine cg_cond_false rfl ?_ | refine cg_skip ?_)
  refine rvnh rfl rfl rfl rfl rfl rfl rfl hB3 (copied_ctn hlB hsm) ?_
  rintro N1 kq k13 _ hN hf hle1q hsame hle13 hq13 ⟨a3, c3, KK, css0, rfl, hKK, hKq, hap, hpc0, hrow0⟩
  have hrow0 := (hrow0.N_le hN).le hq13
  have hK13 := hKq.trans hq13
  have kb10 : KK b10 = none := by
    cases hc : KK b10 with
    | none => rfl
    | some ob => have := hKq _ _ hc; rw [hsame _ _ hk12, kB10] at this; cases this
  have hk1310 := hle13 _ _ hk12
  clear d5 hsame
  skip
  refine rb rfl rfl rfl rfl (a_alloc rfl) ?_; intro b19 k14 hb14 hN14 hle14 hk14
  have kb19 : KK b19 = none := by
    cases hc : KK b19 with
    | none => rfl
    | some ob => have := hK13 _ _ hc; rw [hb14] at this; cases this
  refine rw1 (vs := g.cs a3 c3) rfl rfl rfl rfl rfl rfl rfl hk14 rfl (.inl hN14) (by simp [Group.cs, Value.oneCell']) ?_
  intro k15 ht15 hk15
  have hle15 : Le k13 k15 := ht15 k13 hle14 hb14
  have hK15 := hK13.trans hle15
  have hrow15 := hrow0.le hle15
  have hk1510 := hle15 _ _ hk1310
  have n1019 : b10 ≠ b19 := fun e => by rw [e, hb14] at hk1310; cases hk1310
  have c3' := (cells_at (vs := g.cs a3 c3) hk15 rfl).one (i := 3) rfl
  have hcl : css0.length = g.l.length := hpc0.1
  have hcs := List.getElem?_eq_getElem (show i < css0.length by omega)
  obtain ⟨a5, c5, a6, c6, hce, ⟨hws, hwo⟩, hmok⟩ := hpc0.2 i _ _ hcs hgi
  rw [hce] at hcs
  obtain ⟨gb, cap, cur, hve, hgN, hkg, hglt, hcg, hset⟩ := Row.cell (i := i) (j := 3) (cs := m.cs a5 c5 a6 c6) hrow15 (fun y hy => hpc0.len y hy) hcs (by omega)
  cases hve
  have hne : gb ≠ b19 := fun e => by rw [e, hk15] at hkg; simp at hkg
  have hne2 : gb ≠ b10 := fun e => by rw [e, hk1510] at hkg; simp at hkg
  have hKg : KK gb = none := hap gb rfl
  have hsgK := hsg.le hKK
  have hcxK := hcx.le hKK
  have hcx15 := hcxK.le hK15
  clear ht15 hk14 hle14
  repeat (first | refine cg_seq ?_ | refine rg_nil ?_ | refine eg_then ?_)
  refine cg_calls 11 (by kernel_rfl) (by kernel_rfl) rfl rfl ?_
  dsimp only [List.take]
  repeat (first | refine qcp ?_ | refine qcl ?_ | refine qcf ?_)
  refine wc_v rfl (loc_alloc rfl (a_empty rfl)) rfl ?_
  repeat (first | refine qcp ?_ | refine qci ?_ | refine qcl ?_)
  refine wc_iv (φ := Und KK k15 fun k' v => ∃ a' c', v = .slice a' own.length c' ∧ Sl tTp k' a' c' own) rfl (LocI.elim 77 rfl (by kernel_rfl) Und.mono fun v kz hkz ⟨bq, eq, hbq, _⟩ => ?_) rfl ?_
  · subst eq
    exact loci_appE (T := tTp) (h := KK) (kq := k15) rfl rfl rfl rfl hkz (hK15.trans hkz) hsgK Tp.one rfl rfl (by omega)
  repeat (first | refine qci ?_ | refine qcf ?_)
  refine wc_nil ?_
  intro k16 vs hle16 hvs
  obtain ⟨K2, hK2, hsame2, hK216, ao, co, ev, hso⟩ := hvs 82 _ rfl
  clear hvs
  dsimp only [List.drop, set]
  simp only [nameE, nameP]
  rw [ev]
  generalize vs 77 = w77
  have k210 : K2 b10 = none := (hsame2 _ _ hk1510).trans kb10
  have k219 : K2 b19 = none := (hsame2 _ _ hk15).trans kb19
  have k2g : K2 gb = none := (hsame2 _ _ hkg).trans hKg
  have hk16g := hle16 _ _ hkg
  have hk16 := hle16 _ _ hk15
  have hk1610 := hle16 _ _ hk1510
  refine rw0 rfl rfl rfl rfl rfl rfl rfl rfl hk16g (show 0 + i * 6 + 3 < cur.size by omega) (.inl hgN) ?_; intro k17 ht17 hk17
  have hrow16 := hrow15.le hle16
  obtain ⟨gb0, cap0, cur0, hve, _, hkg0, hglt0, _, hset0⟩ := Row.cell (i := i) (j := 3) (cs := m.cs a5 c5 a6 c6) hrow16 (fun y hy => hpc0.len y hy) hcs (by omega)
  simp only [Value.slice.injEq, Option.some.injEq, Addr.mk.injEq, and_true, true_and] at hve
  obtain ⟨rfl, rfl⟩ := hve
  rw [hk16g] at hkg0
  simp only [Option.some.injEq, Obj.cells.injEq, and_true] at hkg0
  subst hkg0
  have hrow17 := hset0 k17 (.slice ao own.length co) ht17 (by rw [hk17]; simp)
  have hk1719 := turn1_get ht17 (Ne.symm hne) hk16
  have hk1710 := turn1_get ht17 (Ne.symm hne2) hk1610
  have hK17 : Le K2 k17 := ht17 K2 hK216 k2g
  clear hset hset0 ht17 hk17 hk16g hk16 hk1610 hK216 hrow15 hrow16 hkg hk15 hk1510 hK15 hle16 hcx15 ev
  have c3' := (cells_at (vs := g.cs (some ⟨gb, 0, none⟩) c3) hk1719 rfl).one (i := 3) rfl
  have hc2 : (css0.set i ((m.cs a5 c5 a6 c6).set 3 (.slice ao own.length co)))[i]? = some ((m.cs a5 c5 a6 c6).set 3 (.slice ao own.length co)) := by
    rw [List.getElem?_set, if_pos rfl, if_pos (by omega)]
  obtain ⟨gb', cap', cur', hve, _, hkg17, hglt17, _, hset17⟩ := Row.cell (i := i) (j := 5) (cs := (m.cs a5 c5 a6 c6).set 3 (.slice ao own.length co)) hrow17 (fun y hy => by
    rcases List.mem_or_eq_of_mem_set hy with hy | rfl
    · exact hpc0.len y hy
    · simp [Member.cs]) hc2 (by omega)
  simp only [Value.slice.injEq, Option.some.injEq, Addr.mk.injEq, and_true, true_and] at hve
  obtain ⟨rfl, rfl⟩ := hve
  repeat (first | refine cg_seq ?_ | refine cg_region ?_ | refine rg_nil ?_ | refine eg_then ?_ | refine qsp ?_ | refine qsi ?_ | refine qsl ?_ | refine qsf ?_)
  refine rw0 rfl rfl rfl rfl rfl rfl rfl rfl hkg17 (show 0 + i * 6 + 5 < cur'.size by omega) (.inl hgN) ?_; intro k18 ht18 hk18
  have hrow18 := hset17 k18 (.int .i64 now) ht18 (by rw [hk18]; simp)
  rw [List.set_set] at hrow18
  have hk1819 := turn1_get ht18 (Ne.symm hne) hk1719
  have hk1810 := turn1_get ht18 (Ne.symm hne2) hk1710
  have hK18 : Le K2 k18 := ht18 K2 hK17 k2g
  have hpc : Pieces tMember K2 (css0.set i (((m.cs a5 c5 a6 c6).set 3 (.slice ao own.length co)).set 5 (.int .i64 now))) (g.l.set i (setOwn own now m)) := (hpc0.le hK2).set i ⟨a5, c5, ao, co, rfl, ⟨hws.le hK2, hso⟩, hmok.1, hmok.2.1, hmok.2.2.1, hmok.2.2.2.1, hmok.2.2.2.2.1, hI⟩
  obtain ⟨q, hq⟩ : ∃ q : Group, q = { g with l := g.l.set i (setOwn own now m) } := ⟨_, rfl⟩
  have hql : q.l = g.l.set i (setOwn own now m) := by rw [hq]
  have hqn : q.l.length = g.l.length := by rw [hql, List.length_set]
  have hcq : q.cs (some ⟨gb, 0, none⟩) c3 = g.cs (some ⟨gb, 0, none⟩) c3 := by unfold Group.cs; rw [hqn, hq]
  rw [← hql] at hpc
  rw [← hcq] at hk1819
  rw [← hqn] at hrow18
  clear c3' hkg17 hset17 ht18 hk18 hK17 hk1719 hk1710 hrow17
  have d19 := cells_at (vs := q.cs (some ⟨gb, 0, none⟩) c3) hk1819 rfl
  have hcx18 := (hcxK.le hK2).le hK18
  repeat (first | refine cg_seq ?_ | refine rg_nil ?_ | refine eg_then ?_)
  refine cg_calls 7 (by kernel_rfl) (by kernel_rfl) rfl rfl ?_
  dsimp only [List.take]
  repeat (first | refine qcg ?_)
  refine wc_v rfl (loc_alloc rfl (a_empty rfl)) rfl ?_
  repeat (first | refine qcp ?_ | refine qci ?_ | refine qcl ?_)
  refine wc_iv (φ := Und K2 k18 fun k' v => ∃ a' c', v = .slice a' own.length c' ∧ Sl tTp k' a' c' own) rfl (LocI.elim 92 rfl (by kernel_rfl) Und.mono fun v kz hkz ⟨bq, eq, hbq, _⟩ => ?_) rfl ?_
  · subst eq
    exact loci_appE (T := tTp) (h := K2) (kq := k18) rfl rfl rfl rfl hkz (hK18.trans hkz) (hsgK.le hK2) Tp.one rfl rfl (by omega)
  skip
  refine wc_nil ?_
  intro k20 vs hle20 hvs
  obtain ⟨K3, hK3, hsame3, hK320, a9, c9, ev, hs9⟩ := hvs 97 _ rfl
  clear hvs
  dsimp only [List.drop, set]
  simp only [nameE, nameP]
  rw [ev]
  generalize vs 92 = w92
  have k310 : K3 b10 = none := (hsame3 _ _ hk1810).trans k210
  have hk20 := hle20 _ _ hk1810
  refine rw1 (vs := q.cs (some ⟨gb, 0, none⟩) c3) rfl rfl rfl rfl rfl rfl rfl hk20 rfl (.inl hN10) (by simp [Group.cs, Value.oneCell']) ?_
  intro k21 ht21 hk21
  repeat (first | refine rg_nil ?_ | refine eg_then ?_ | refine qsp ?_ | refine cg_ret ?_)
  have hsl : Sl tMember k21 (some ⟨gb, 0, none⟩) c3 q.l := GrpR.sl hpc ((hrow18.le hle20).turnY ht21 hk20 (by decide)) (ht21 K2 (hK18.trans hle20) k210)
  refine eg_returnC3 rfl rfl rfl rfl rfl (cells_at (vs := q.cs (some ⟨gb, 0, none⟩) c3) hk21 rfl) rfl ⟨q, own, 0, _, c3, a9, c9, rfl, hsl, hs9.le (ht21 K3 hK320 k310), fun h => absurd e0 h, fun _ => ⟨w, hw13, by rw [hpos, hown], by rw [hpos, setAt_at hgi, hq], rfl⟩⟩
end Go.Wm

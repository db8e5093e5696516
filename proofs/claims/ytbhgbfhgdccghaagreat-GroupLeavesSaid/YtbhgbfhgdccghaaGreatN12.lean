/-
  Sync, the program's. Conditions: that what is handed in reads as data.
-/
import Derived.Test.YtbhgbfhgdccghaaGreatN11
import Derived.Test.YtbhgbfhgdccghaaGreatK7
set_option linter.all false
namespace Go.Wm
open Go.RowKit Go.Proofs
/-- What Sync tells, in memory. -/
def SynV (g : Group) (id : ByteArray) (gen now : Int) (tps : List Tp) (k : PH) (v : Value) : Prop := ∃ x own e a c a' c', v = .tuple #[.agg (x.cs a c).toArray, .slice a' own.length c', .int .i64 e] ∧ Sl tMember k a c x.l ∧ Sl tTp k a' c' own ∧ SyncR g id gen now tps x own e
theorem SynV.mono {g : Group} {id : ByteArray} {gen now : Int} {tps : List Tp} : ∀ k k' v, Le k k' → SynV g id gen now tps k v → SynV g id gen now tps k' v := fun k k' v hle ⟨x, own, e, a, c, a', c', h1, h2, h3, h4⟩ => ⟨x, own, e, a, c, a', c', h1, h2.le hle, h3.le hle, h4⟩
section
variable {P : Program} {F : Fr} {n : Nat} {ops : Array Oper} {o : Oper} {e : Env} {k : PH}
/-- A block that a region turns, read as a whole where it is known what stands there. -/
theorem loci_loadA {I : PH → World → Prop} {t : TypeId} {d : TypeDesc} {x : Operand} {b off sz bs : Nat} {z : Value} {vs : List Value} [h : TyU P t d] [hi : TyI P t sz bs z] (hI : ∀ k w, I k w → ∃ c et fr, w.heap[b]? = some (.cells c et fr) ∧ ∀ j v, vs[j]? = some v → c[off + j]? = some v) (hg : wantedE ops e o = some true) (hop : o.op = .load t x) (hx : opv e x = some (.pointer (some ⟨b, off, none⟩))) (hd : aggD d = true) (hl : vs.length = sz) : LocI P n ops I o e k (.is (.agg vs.toArray)) := by
  refine ⟨trivial, fun a w k1 hk hs hi2 _ hlo => ?_⟩
  rw [if_pos (wanted_of hlo hg)]
  have hev := evs_of hlo
  rw [hop] at hev
  obtain ⟨c, et, fr, g1, g2⟩ := hI _ _ hi2
  have hc : Cells (wPH w) b off vs := ⟨c, et, fr, g1, fun p u hu => g2 p u hu⟩
  have hrun : (execOp a.eval o).run P w = .ok (.value (.agg vs.toArray)) w := by
    have := run_loadAgg (P := P) (t := t) hd hl hc (w := w) (fun b ob hb => hb)
    simp [execOp, hop, hev x (by simp [Op.operands]) _ hx, Instr.loadAt, Instr.sureAddr, this]
  exact (ex_value hrun).mono fun u u' ⟨h1, h2⟩ => by
    subst h2
    exact ⟨k1, Below.refl _ _, fun _ _ => rfl, hs, h1⟩
end
theorem sl_nilTp (k : PH) : Sl tTp k none 0 [] := ⟨by simp, by simp [maxLen], fun _ => rfl, by simp, by simp⟩
attribute [local irreducible] RG CG EG WA Loc Det Alc CT Exit.then Exit.inBlock Code.wp bodyPost
set_option maxHeartbeats 8000000 in
theorem sync_ct {k : PH} {g : Group} {a : Option Addr} {c : Nat} (hl : Sl tMember k a c g.l) (hok : g.ok) (hsm : SmallG g) {tps : List Tp} {ta : Option Addr} {tc : Nat} (ht : Sl tTp k ta tc tps) (hbt : tps.length ≤ 10000) (id : ByteArray) (gen now : Int) (hI : I64 now) :
    CT Tryz.prog 7 #[.agg (g.cs a c).toArray, .string id, .int .i64 gen, .int .i64 now, .slice ta tps.length tc] k (SynV g id gen now tps) := by
  refine ct_of_body (l := [_, _, _, _, _]) Tryz.func7 rfl Tryz.ntmps7 (by simp) SynV.mono fun F hF0 hFm => ?_
  have hb : g.l.length ≤ 1000000000000000 := by have := hsm.1; omega
  repeat (first | refine cg_seq ?_ | refine cg_region ?_)
  refine rb rfl rfl rfl rfl (a_box rfl rfl) ?_; intro b5 k5 hb5 hN5 hle5 hk5
  skip
  refine rb rfl rfl rfl rfl (a_alloc rfl) ?_; intro b10 k10 hb10 hN10 hle10 hk10
  have cg := (cells_at (vs := g.cs a c) hk5 rfl).le hle10
  have hkk : Le k k10 := hle5.trans hle10
  have kb5 : k b5 = none := hb5
  have kb10 : k b10 = none := by
    cases hc : k b10 with
    | none => rfl
    | some o => have := hle5 _ _ hc; rw [hb10] at this; cases this
  have n510 : b5 ≠ b10 := fun e => by rw [← e, hk5] at hb10; cases hb10
  have s10 := hle10 _ _ hk5
  repeat (first | refine cg_seq ?_ | refine cg_region ?_ | refine rg_nil ?_ | refine eg_then ?_ | refine qsp ?_ | refine qsg ?_)
  refine rvnh rfl rfl rfl rfl rfl rfl rfl hkk (keep_ctn hl hok hsm) ?_
  rintro N k0 k7 _ hN7 hnew _ hold hle7 hle07 ⟨bk, KK, v, rfl, h7⟩
  have hK10 : KK b10 = none := by
    cases hc : KK b10 with
    | none => rfl
    | some ob => have := h7.le _ _ hc; rw [hold b10 _ hk10, kb10] at this; cases this
  have h7 := h7.up hle07
  have hbn : F.w0.heap.size ≤ bk := Nat.le_trans hN7 h7.nb
  have om : ∀ b, b = bk → F.w0.heap.size ≤ b ∨ F.mu b := fun b hb => .inl (by rw [hb]; exact hbn)
  have n5 : ¬ b5 = bk := fun e => by have := hnew bk h7.nb; rw [← e, s10] at this; cases this
  have n10 : ¬ b10 = bk := fun e => by have := hnew bk h7.nb; rw [← e, hk10] at this; cases this
  have hb7 : k bk = none := by
    cases hc : k bk with
    | none => rfl
    | some o => have := hkk _ _ hc; rw [hnew bk h7.nb] at this; cases this
  have hkk7 : Le k k7 := hkk.trans hle7
  have s7 := hle7 _ _ s10
  have r7 := hle7 _ _ hk10
  clear hle7 hold hle07 hkk hk10 hk5 s10 hle5 hle10 cg
  have ht7 := ht.le hkk7
  obtain ⟨tb, htb⟩ : ∃ tb, (timeOk now && decide (RightP ordTp tpOk tps)) = tb := ⟨_, rfl⟩
  repeat (first | refine cg_seq ?_ | refine cg_region ?_ | refine rg_nil ?_ | refine eg_then ?_ | refine qsp ?_)
  refine rs rfl rfl (loc_call_is rfl rfl rfl rfl (time_ct now)) ?_
  repeat (first | refine qsp ?_)
  apply meetR (k := k7) [(20, .is (.pointer (some ⟨bk, 0, none⟩))), (26, .is (.bool tb)), (13, .is (.pointer (some ⟨bk, 0, none⟩))), (1, .is (.string id)), (2, .is (.int .i64 gen)), (3, .is (.int .i64 now)), (4, .is (.slice ta tps.length tc)), (5, .is (.pointer (some ⟨b5, 0, none⟩))), (10, .is (.pointer (some ⟨b10, 0, none⟩))), (11, .is (.slice none 0 0)), (12, .is (.int .i64 0))] True
  · intro go
    cases q : timeOk now
    · rw [q] at htb
      repeat (first | refine qsp ?_ | refine qso ?_)
      exact go _ trivial ⟨rfl, by rw [← htb]; rfl, rfl, rfl, rfl, rfl, rfl, rfl, rfl, rfl, rfl, trivial⟩
    · rw [q] at htb
      repeat (first | refine qsp ?_)
      refine rs rfl rfl (loc_call_is rfl rfl rfl rfl (riseTp_ct ht7)) ?_
      repeat (first | refine qsp ?_)
      exact go _ trivial ⟨rfl, by rw [← htb]; rfl, rfl, rfl, rfl, rfl, rfl, rfl, rfl, rfl, rfl, trivial⟩
  rintro -
  refine rcm rfl rfl rfl rfl rfl rfl rfl (want_ctm h7 tb 1) om ?_
  rintro _ k8 hle8 ⟨rfl, h8⟩
  have s8 := le_one hle8 s7 n5
  have r8 := le_one hle8 r7 n10
  have hkk8 := hle8 k hkk7 (fun b hb => by rw [hb]; exact hb7)
  clear h7 s7 r7 hkk7 ht7 hle8
  repeat (first | refine cg_seq ?_ | refine cg_region ?_ | refine rg_nil ?_ | refine eg_then ?_ | refine qsp ?_)
  refine rcm rfl rfl rfl rfl rfl rfl rfl (find_ctm h8 hb id true) om ?_
  rintro _ k9 hle9 ⟨i, rfl, hfa, h9⟩
  have s9 := le_one hle9 s8 n5
  have r9 := le_one hle9 r8 n10
  have hkk9 := hle9 k hkk8 (fun b hb => by rw [hb]; exact hb7)
  have e2 := (cells_at (vs := kCells g v (wantE (wantE (chkG g) tb 1) (metAt id g.l i || !true) 230)) h9.at' rfl).one (i := 2) rfl
  clear h8 s8 r8 hkk8 hle9
  repeat (first | refine cg_seq ?_ | refine cg_region ?_ | refine rg_nil ?_ | refine eg_then ?_ | refine qsp ?_ | refine qsl ?_ | refine qsf ?_)
  refine rcm rfl rfl rfl rfl rfl rfl rfl (want_ctm h9 (g.state != 1) 232) om ?_
  rintro _ k11 hle11 ⟨rfl, h11⟩
  have s11 := le_one hle11 s9 n5
  have r11 := le_one hle11 r9 n10
  have hkk11 := hle11 k hkk9 (fun b hb => by rw [hb]; exact hb7)
  have e1 := (cells_at (vs := kCells g v (wantE (wantE (wantE (chkG g) tb 1) (metAt id g.l i || !true) 230) (g.state != 1) 232)) h11.at' rfl).one (i := 1) rfl
  clear h9 s9 r9 hkk9 hle11 e2
  repeat (first | refine cg_seq ?_ | refine cg_region ?_ | refine rg_nil ?_ | refine eg_then ?_ | refine qsp ?_ | refine qsl ?_ | refine qsf ?_)
  refine rcm rfl rfl rfl rfl rfl rfl rfl (want_ctm h11 (decide (gen = g.gen)) 231) om ?_
  rintro _ k12 hle12 ⟨rfl, h12⟩
  have s12 := le_one hle12 s11 n5
  have r12 := le_one hle12 r11 n10
  have hkk12 := hle12 k hkk11 (fun b hb => by rw [hb]; exact hb7)
  rw [← htb, sync_told hfa] at h12
  clear h11 s11 r11 hkk11 hle12 e1
  have e4 := (cells_at (vs := kCells g v (syncE g id gen now tps)) h12.at' rfl).one (i := 4) rfl
  have r12 : k12 b10 = some (.cells (noG.cs none 0).toArray 24 (0, 0)) := r12
  repeat (first | refine cg_seq ?_ | refine cg_region ?_ | refine rg_nil ?_ | refine eg_then ?_ | refine qsp ?_ | refine qsl ?_ | refine qsf ?_)
  refine cg_cond rfl (fun hz => ?_) (fun hz => ?_)
  · have hz : syncE g id gen now tps ≠ 0 := by simpa using hz
    repeat (first | refine cg_seq ?_)
    have e4d := e4.delL (rs := [b10]) (by simpa using fun e => n10 e.symm)
    refine cg_chain 8 [5] (fun _ => [(b10, .cells (noG.cs none 0).toArray 24 (0, 0))]) [b10] (fun _ => rfl) (by kernel_rfl) (by kernel_rfl) rfl (by kernel_rfl) rfl (fun p' hp' => by simp at hp'; rw [hp']; exact r12) (fun r hr => by simp at hr; rw [hr]; exact hN10) ?_
    dsimp only [List.take]
    refine wc_i1 (v := .agg (noG.cs none 0).toArray) rfl (loci_loadA (off := 0) (b := b10) ?_ rfl rfl rfl rfl rfl) rfl ?_
    · rintro k' w ⟨s, tm, hs1, hw, hX⟩
      exact ⟨(noG.cs none 0).toArray, _, _, (hX (b10, .cells (noG.cs none 0).toArray 24 (0, 0)) (List.mem_singleton.2 rfl)).1, fun j v hv => by rw [Nat.zero_add]; simpa using hv⟩
    repeat (first | refine qcp ?_ | refine qcl ?_ | refine qcf ?_)
    refine wc_e 0 rfl (effs_stoL (j := 0) (vs := noG.cs none 0) (c := (noG.cs none 0).toArray) rfl rfl rfl rfl rfl (by simp [Group.cs, Value.oneCell']) rfl rfl rfl (fun i p' h1 h2 => by cases i with | zero => exact absurd rfl h2 | succ i => simp at h1) hN10) ?_
    repeat (first | refine qcp ?_)
    refine wc_nil ?_
    intro k13 vs hle13 _
    dsimp only [List.drop, set, argEnv, nameE, nameP]
    have hk13 : setL k13 [(b10, .cells (noG.cs none 0).toArray 24 (0, 0))] b10 = some (.cells (noG.cs none 0).toArray 24 (0, 0)) := upd_same _ _ _
    change RG _ _ _ _ _ _ _ (setL k13 [(b10, .cells (noG.cs none 0).toArray 24 (0, 0))])
    generalize setL k13 [(b10, .cells (noG.cs none 0).toArray 24 (0, 0))] = k14 at hk13 ⊢
    repeat (first | refine rg_nil ?_ | refine eg_then ?_ | refine cg_ret ?_ | refine eg_then_ret ?_)
    refine eg_returnC3 rfl rfl rfl rfl rfl (cells_at (vs := noG.cs none 0) hk13 rfl) rfl ⟨noG, [], syncE g id gen now tps, none, 0, none, 0, rfl, sl_nilM _, sl_nilTp _, fun _ => ⟨rfl, rfl, rfl⟩, fun h => absurd h hz⟩
  have hz : syncE g id gen now tps = 0 := by simpa using hz
  obtain ⟨hc, htm, htp, hhas, hst, hgen⟩ := syncE_zero hz
  have hl12 := hl.le hkk12
  have hl5 := (cells_at (vs := g.cs a c) s12 rfl).one (i := 3) rfl
  have ht12 := ht.le hkk12
  have hfew := hc.few
  have htc := target_ct hl12 ht12 (by omega) (by omega)
  clear e4
  obtain ⟨was, hw, hwid⟩ := has_at hc.right hhas
  rw [← hfa.pos hc.right] at hw
  obtain ⟨hilt, _⟩ := List.getElem?_eq_some_iff.1 hw
  repeat (first | refine cg_seq ?_ | refine cg_region ?_ | refine eg_then ?_ | refine qsp ?_ | refine qsl ?_ | refine qsf ?_ | refine cg_skip ?_)
  refine rv rfl rfl rfl (loc_call rfl rfl rfl rfl (fun k k' v hle ⟨a, c, r, er, h1, h2, h3⟩ => ⟨a, c, r, er, h1, h2.le hle, h3⟩) htc) ?_
  rintro k13 hle13 _ ⟨a13, c13, r, er, rfl, hr, hT⟩
  obtain ⟨rfl, w, hw13, rfl⟩ := hT.yes (okT_right hc.right htp)
  have hwl := hw13.inv.len
  have hsum : lenTo (outM g.l.length tps w) (outM g.l.length tps w).length ≤ 1000000 := by
    have := lenTo_bd (own := outM g.l.length tps w) (B := tps.length) (fun r hr => by
      obtain ⟨j, hj⟩ := List.getElem?_of_mem hr
      exact outM_bd hj) (outM g.l.length tps w).length
    rw [outM_len] at this ⊢
    have h2 : g.l.length * tps.length ≤ 64 * 10000 := Nat.mul_le_mul hfew hbt
    omega
  have hrc := round_ct (hl12.le hle13) hr (by omega) (fun _ => hsum)
  have h13 := h12.up hle13
  have s13 := hle13 _ _ s12
  have r13 := hle13 _ _ r12
  have hl5 := hl5.le hle13
  clear htc hl12 ht12 h12 s12 r12 hle13
  repeat (first | refine cg_seq ?_ | refine cg_region ?_ | refine rg_nil ?_ | refine eg_then ?_ | refine qsp ?_ | refine qsl ?_ | refine qsf ?_ | refine cg_cond_false rfl ?_ | refine cg_skip ?_)
  refine rv rfl rfl rfl (loc_call rfl rfl rfl rfl rnd_mono hrc) ?_
  rintro k14 hle14 _ ⟨a14, c14, r, er, rfl, hr14, hR⟩
  obtain ⟨rfl, rfl⟩ := hR.yes (okR_tgt (okT_right hc.right htp) hw13)
  have h14 := h13.up hle14
  have s14 := hle14 _ _ s13
  have r14 := hle14 _ _ r13
  have hrl : (roundM g.l (outM g.l.length tps w)).length = g.l.length := by simp [roundM]
  have hgot : (roundM g.l (outM g.l.length tps w))[i]? = some (gotS g.l tps w i) := by
    unfold gotS
    rw [List.getD_eq_getElem?_getD, List.getElem?_eq_getElem (by omega)]; rfl
  obtain ⟨bx, ox, cx, rfl, hrep, hcx⟩ := hr14.el i _ hgot
  obtain ⟨ag, cg, rfl, hsg⟩ := hrep
  have bl := hr14.cap; have bm := hr14.max; unfold maxLen at bm
  clear h13 s13 r13 hrc hr hl5
  obtain ⟨own, hown⟩ : ∃ own, gotS g.l tps w i = own := ⟨_, rfl⟩
  rw [hown] at hgot hsg hcx
  have hownb : own.length ≤ 10000 := by
    rw [← hown]
    exact Nat.le_trans (gotS_sub hilt hwl).length_le hbt
  have hookS : ∀ t ∈ own, t.ok := sl_ok_tp hsg
  repeat (first | refine cg_seq ?_ | refine cg_region ?_ | refine rg_nil ?_ | refine eg_then ?_ | refine qsp ?_ | refine qsi ?_ | refine qsl ?_ | refine cg_cond_false rfl ?_ | refine cg_skip ?_)
  refine rvn rfl rfl rfl rfl rfl rfl rfl (cloneTp_ct hsg (by omega)) ?_
  rintro N15 k15 u1v hN15 _ hle15 ⟨css15, hp15, hr15⟩
  obtain ⟨ao, co, rfl, _⟩ := hr15.sls (T := tTp) ⟨hp15.1, fun i cs x h1 h2 => hp15.2 i cs x h1 h2⟩
  have hor : Row F.w0.heap.size k15 53 3 (.slice ao own.length co) own.length (own.flatMap Tp.vs) := by
    have := pieces_map (T := tTp) (fun _ _ _ h => h.1) hp15
    rw [this] at hr15
    exact hr15.N_le hN15
  have h15 := (h14.up hle15).N_le hN7
  have r15 := hle15 _ _ r14
  clear h14 r14 s14 hr14 hcx hp15 hr15 hle15 hsg
  have h12' : KK bk = none := h15.kb
  obtain ⟨css, v1, v2, v3⟩ := h15.row
  have hcl : css.length = g.l.length := v1.1
  have hci := List.getElem?_eq_getElem (show i < css.length by omega)
  obtain ⟨a0, c0, a1, c1, hce, ⟨hws, hwo⟩, hwok⟩ := v1.2 i _ _ hci hw
  rw [hce] at hci
  obtain ⟨gb, cap, cur, hve, hgN, hkg, hglt, hcg, hset⟩ := Row.cell (i := i) (j := 3) (cs := was.cs a0 c0 a1 c1) v2 (fun y hy => v1.len y hy) hci (by omega)
  subst hve
  have hne : gb ≠ bk := fun e => by rw [e, h15.at'] at hkg; cases hkg
  have hng : b10 ≠ gb := fun e => by rw [← e, r15] at hkg; cases hkg
  have hKg : KK gb = none := h15.ap gb rfl
  have hlen3 : i < g.l.length := hilt
  have dd : ∀ b, b ≠ gb → delB k15 gb b = k15 b := fun b hb => by unfold delB; rw [if_neg hb]
  have dkb := (dd bk (Ne.symm hne)).trans h15.at'
  have dr10 := (dd b10 hng).trans r15
  have e3 := (cells_at (vs := kCells g (.slice (some ⟨gb, 0, none⟩) g.l.length cap) 0) (by rw [hz] at dkb; exact dkb) rfl).one (i := 3) rfl
  have hosl : Sl tTp (delB k15 gb) ao co own := row_sl_tp (hor.at fun gg hg => dd gg fun e => hor.owner1 hkg (by decide) (by rw [← e]; exact hg)) hookS
  have hKd : Le KK (delB k15 gb) := le_delB h15.le hKg
  have hord : Row F.w0.heap.size (delB k15 gb) 53 3 (.slice ao own.length co) own.length (own.flatMap Tp.vs) := hor.at fun gg hg => dd gg fun e => hor.owner1 hkg (by decide) (by rw [← e]; exact hg)
  have blc := v2.N_le (Nat.zero_le _)
  repeat (first | refine cg_seq ?_ | refine rg_nil ?_ | refine eg_then ?_ | refine qsp ?_)
  refine cg_sto1 18 17 gb (0 + i * 6 + 3) 44 cur (PTp (gb + 1) (delB k15 gb) own) hkg hgN (by kernel_rfl) (by kernel_rfl) rfl (by kernel_rfl) rfl ?_
  dsimp only [List.take]
  repeat (first | refine qcp ?_ | refine qcl ?_ | refine qcf ?_)
  refine wc_iv (φ := PTp (gb + 1) (delB k15 gb) own) rfl (loci_ctn (fun k' w ⟨s, tm, _, _, hX⟩ => hX.1) rfl rfl rfl rfl (Le.refl _) (fun M k k' v hle ⟨css, h1, h2⟩ => ⟨css, h1, h2.le hle⟩) (cloneTp_ct hosl (by omega))) rfl ?_
  repeat (first | refine qcp ?_ | refine qci ?_ | refine qcf ?_)
  refine wc_e 0 rfl (effs_st1 (dv := 101) (b := gb) (off := 0 + i * 6 + 3) rfl (Le.refl _) rfl rfl rfl rfl (fun k u h => made_one (T := tTp) h) (by omega) hgN) ?_
  refine wc_nil ?_
  intro k0' k16 vs u hle0 hφ hle16 hb16 hvs
  clear hvs
  dsimp only [List.drop, set]
  simp only [nameE, nameP]
  have hle56 : Le (delB k15 gb) k16 := hle0.trans hle16
  have hu1 := made_one (T := tTp) hφ
  have hu16 : PTp (gb + 1) (delB k15 gb) own k16 u := made_le (T := tTp) hφ fun g o _ h => hle16 g o h
  have hk17 : upd k16 gb (.cells (cur.setIfInBounds (0 + i * 6 + 3) u) 44 (0, 0)) gb = some (.cells (cur.setIfInBounds (i * 6 + 3) u) 44 (0, 0)) := by rw [upd_same, Nat.zero_add]
  have hle57 : Le (delB k15 gb) (upd k16 gb (.cells (cur.setIfInBounds (0 + i * 6 + 3) u) 44 (0, 0))) := hle56.upd (delB_own _ _)
  have hup : ∀ g o, gb + 1 ≤ g → k16 g = some o → upd k16 gb (.cells (cur.setIfInBounds (0 + i * 6 + 3) u) 44 (0, 0)) g = some o := fun g o hg h => (upd_other (by omega)).trans h
  have hu17 := made_le (T := tTp) hu16 hup
  have ht17 : Turn1 k15 (upd k16 gb (.cells (cur.setIfInBounds (0 + i * 6 + 3) u) 44 (0, 0))) gb := fun h hl hn => (le_delB hl hn).trans hle57
  have hrow17 := hset _ u ht17 hk17
  generalize upd k16 gb (.cells (cur.setIfInBounds (0 + i * 6 + 3) u) 44 (0, 0)) = k17 at hk17 hle57 hu17 ht17 hrow17 ⊢
  clear hu16 hφ hup hle56 hle16 hb16 hle0 hset
  have hc2 : (css.set i ((was.cs a0 c0 a1 c1).set 3 u))[i]? = some ((was.cs a0 c0 a1 c1).set 3 u) := by
    rw [List.getElem?_set, if_pos rfl, if_pos (by omega)]
  obtain ⟨gb', cap', cur', hve, _, hkg17, hglt17, _, hset17⟩ := Row.cell (i := i) (j := 5) (cs := (was.cs a0 c0 a1 c1).set 3 u) hrow17 (fun y hy => by
    rcases List.mem_or_eq_of_mem_set hy with hy | rfl
    · exact v1.len y hy
    · simp [Member.cs]) hc2 (by omega)
  simp only [Value.slice.injEq, Option.some.injEq, Addr.mk.injEq, and_true, true_and] at hve
  obtain ⟨rfl, rfl⟩ := hve
  have bk17 := hle57 _ _ dkb
  have r17 := hle57 _ _ dr10
  have or17 := hord.le hle57
  have hK17 := hKd.trans hle57
  repeat (first | refine qsi ?_ | refine qsf ?_)
  refine rw0 rfl rfl rfl rfl rfl rfl rfl rfl hkg17 (show 0 + i * 6 + 5 < cur'.size by omega) (.inl hgN) ?_; intro k18 ht18 hk18
  have hrow18 := hset17 k18 (.int .i64 now) ht18 (by rw [hk18, Nat.zero_add])
  have bk18 := turn1_get ht18 (Ne.symm hne) bk17
  have r18 := turn1_get ht18 hng r17
  have or18 := or17.turnY ht18 hkg17 (by decide)
  have hK18 := ht18 KK hK17 hKg
  have hu18 := made_le (T := tTp) hu17 (fun g o hg h => turn1_get ht18 (by omega) h)
  have hur : Row F.w0.heap.size k18 53 3 u own.length (own.flatMap Tp.vs) := made_row hu18 (by omega)
  obtain ⟨au, cu, rfl, _⟩ := made_sl (T := tTp) (fun _ _ _ _ h => h) hu18 (fun g _ _ => rfl)
  clear hu17 hu18 ht17 hk17 hkg17 hset17 or17 bk17 r17 hrow17 hK17 hle57 hord hosl dkb dr10 dd e3 ht18 hk18 blc hor hkg h15 r15
  obtain ⟨p, hpd⟩ : ∃ p : Nat → Prop, p = fun b => b = bk ∨ b = b10 ∨ (Value.slice (some ⟨gb, 0, none⟩) g.l.length cap).ownBlock = some b := ⟨_, rfl⟩
  have hnz : syncE g id gen now tps = 0 := hz
  rw [hz] at bk18
  have hKp : ∀ b, p b → KK b = none := fun b hb => by
    rw [hpd] at hb
    rcases hb with rfl | rfl | hb
    · exact h12'
    · exact hK10
    · simp [Value.ownBlock] at hb; rw [← hb]; exact hKg
  obtain ⟨KA, hKA⟩ : ∃ KA, KA = cutH k18 p := ⟨_, rfl⟩
  have kA : ∀ b, p b → KA b = none := fun b hb => by rw [hKA]; exact cutH_no hb
  have hKKA : Le KK KA := by rw [hKA]; exact le_cut hK18 hKp
  have hA18 : Le KA k18 := by rw [hKA]; exact cutH_le _ _
  have hurA : Row F.w0.heap.size KA 53 3 (.slice au own.length cu) own.length (own.flatMap Tp.vs) := by
    rw [hKA]
    refine hur.at fun gg hgg => cutH_at fun hpg => ?_
    obtain ⟨cc, hcc⟩ := hur.typ hgg
    rw [hpd] at hpg
    rcases hpg with rfl | rfl | hpg
    · rw [bk18] at hcc; simp at hcc
    · rw [r18] at hcc; simp at hcc
    · obtain ⟨c2, hc2⟩ := hrow18.typ hpg
      rw [hc2] at hcc; simp at hcc
  have hrepA : tMember.rep KA (({ was with own := own, beat := now } : Member).cs a0 c0 au cu) (setOwn own now was) := ⟨a0, c0, au, cu, rfl, ⟨hws.le hKKA, row_sl_tp hurA hookS⟩, hwok.1, hwok.2.1, hwok.2.2.1, hwok.2.2.2.1, hwok.2.2.2.2.1, hI⟩
  have hpA : Pieces tMember KA ((css.set i ((was.cs a0 c0 a1 c1).set 3 (.slice au own.length cu))).set i (((was.cs a0 c0 a1 c1).set 3 (.slice au own.length cu)).set 5 (.int .i64 now))) (g.l.set i (setOwn own now was)) := by
    rw [List.set_set]
    exact (v1.le hKKA).set i hrepA
  have h18 : KeepAt0 F.w0.heap.size KA k18 bk (.slice (some ⟨gb, 0, none⟩) g.l.length cap) { g with l := g.l.set i (setOwn own now was) } 0 := ⟨bk18, hbn, hA18, kA bk (by rw [hpd]; exact .inl rfl), fun gg hgg => kA gg (by rw [hpd]; exact .inr (.inr hgg)), _, hpA, by
    show Row _ _ _ _ _ (g.l.set i (setOwn own now was)).length _
    rw [List.length_set]; exact hrow18⟩
  have pA10 : KA b10 = none := kA b10 (by rw [hpd]; exact .inr (.inl rfl))
  repeat (first | refine cg_seq ?_ | refine cg_region ?_ | refine rg_nil ?_ | refine eg_then ?_ | refine qsp ?_)
  refine rcm rfl rfl rfl rfl rfl rfl rfl (told_ctm h18) om ?_
  rintro _ k19 hle19 ⟨a9, c9, css9, rfl, hp9, hr9⟩
  have hto : toldG { g with l := g.l.set i (setOwn own now was) } 0 = ({ g with l := setAt (posF (byId id) g.l) (setOwn own now) g.l }, 0) := by
    rw [← hfa.pos hc.right, setAt_at hw]
    simp only [toldG, stateG_set (m' := setOwn own now was) hw rfl, ← hc.state]
    rfl
  rw [hto] at hp9 hr9 ⊢
  have r19 := le_one hle19 r18 n10
  have or19 := or18.keep hle19 (fun b cc fr hb hk => by rw [hb, bk18] at hk; simp at hk)
  have hA19 := hle19 KA hA18 (fun b hb => by rw [hb]; exact h18.kb)
  repeat (first | refine qsp ?_)
  refine rw1 (vs := ({ g with l := setAt (posF (byId id) g.l) (setOwn own now) g.l } : Group).cs a9 c9) rfl rfl rfl rfl rfl rfl rfl r19 rfl (.inl hN10) (by simp [Group.cs, Value.oneCell']) ?_
  intro k20 ht20 hk20
  have or20 := or19.turnY ht20 r19 (by decide)
  have hr20 := hr9.turnY ht20 r19 (by decide)
  have hA20 := ht20 KA hA19 pA10
  have c20 := cells_at (vs := ({ g with l := setAt (posF (byId id) g.l) (setOwn own now) g.l } : Group).cs a9 c9) hk20 rfl
  repeat (first | refine cg_seq ?_ | refine cg_region ?_ | refine rg_nil ?_ | refine eg_then ?_ | refine qsp ?_ | refine qsg ?_)
  refine rw1 (vs := ({ g with l := setAt (posF (byId id) g.l) (setOwn own now) g.l } : Group).cs a9 c9) rfl rfl rfl rfl rfl rfl rfl hk20 rfl (.inl hN10) (by simp [Group.cs, Value.oneCell']) ?_
  intro k21 ht21 hk21
  repeat (first | refine rg_nil ?_ | refine eg_then ?_ | refine qsp ?_ | refine cg_ret ?_)
  exact eg_returnC3 rfl rfl rfl rfl rfl (cells_at (vs := ({ g with l := setAt (posF (byId id) g.l) (setOwn own now) g.l } : Group).cs a9 c9) hk21 rfl) rfl ⟨_, own, 0, a9, c9, ao, co, rfl, GrpR.sl hp9 (hr20.turnY ht21 hk20 (by decide)) (ht21 KA hA20 pA10), row_sl_tp (or20.turnY ht21 hk20 (by decide)) hookS, fun h => absurd hnz h, fun _ => ⟨w, hw13, by rw [← hown, ← hfa.pos hc.right], rfl, rfl⟩⟩
end Go.Wm

/-
  The chapter's example, of the program. Conditions: none.
-/
import Derived.Test.YtbhgbfhgdccghaaGreatN12
import Derived.Test.YtbhgbfhgdccghaaGreatK9
import Derived.Test.YtbhgbfhgdccghaaGreatAry
set_option linter.all false
namespace Go.Wm
open Go.RowKit Go.Proofs
theorem noOk : I64 0 := by unfold I64; decide
theorem tokP (t : Tp) (h : t ∈ xBoth) : t.ok := by
  simp only [xBoth, List.mem_cons, List.not_mem_nil, or_false] at h
  rcases h with rfl | rfl <;> exact ⟨by decide, by unfold I64; decide, by unfold I64; decide⟩
theorem xg_oks : xg0.ok ∧ xga.ok ∧ xgb.ok ∧ xgc.ok ∧ xgd.ok ∧ xgx.ok := by
  refine ⟨?_, ?_, ?_, ?_, ?_, ?_⟩ <;> exact ⟨by decide, by unfold I64; decide, by unfold I64; decide, trivial⟩
theorem xg_small : SmallG xg0 ∧ SmallG xga ∧ SmallG xgb ∧ SmallG xgc ∧ SmallG xgd ∧ SmallG xgx := by
  unfold SmallG
  decide
theorem xm_ok (id : ByteArray) (own : List Tp) (h : id.size ≤ maxLen) : (xm id own).ok := ⟨h, (by decide : (0 : Nat) ≤ maxLen), trivial, trivial, trivial, noOk⟩
theorem ct_imp {P : Program} {f : FuncId} {args : Array Value} {k : PH} {φ ψ : PH → Value → Prop} (h : CT P f args k φ) (hi : ∀ k v, φ k v → ψ k v) : CT P f args k ψ := by
  intro w k1 hle hs
  refine (h w k1 hle hs).mono ?_
  rintro e w' ⟨v, k', h1, h2, h3, h4, h5⟩
  exact ⟨v, k', h1, h2, h3, h4, hi _ _ h5⟩
theorem loci_such {P : Program} {n : Nat} {ops : Array Oper} {o : Oper} {e : Env} {k : PH} {I : PH → World → Prop} {u : Value} {φ : PH → Value → Prop} (hm : (PV.such φ).Mono) (hl : Loc P n ops o e k (.is u)) (hgd : o.guard = none) (h2 : φ k u) : LocI P n ops I o e k (.such φ) := by
  refine ⟨hm, fun a w k2 hk hs _ hsz hlo => ?_⟩
  have := hl.2 a w k2 hk hs hsz hlo
  split
  · rename_i hw
    rw [if_pos hw] at this
    refine this.mono fun q w' ⟨k', g1, g2, g3, g4⟩ => ⟨k', g1, g2, g3, ?_⟩
    have : q = u := g4
    subst this
    exact hm k k' q (hk.trans (g2.le hs)) h2
  · rename_i hw
    rw [if_neg hw] at this
    have h5 : undef = u := this
    show φ k2 undef
    rw [h5]
    exact hm k k2 u hk h2
def JoinK (G : Group → Prop) : PH → Value → Prop := fun k v => ∃ x a c, v = .tuple #[.agg (x.cs a c).toArray, .int .i64 0] ∧ Sl tMember k a c x.l ∧ G x
theorem JoinK.mono {G : Group → Prop} : (PV.such (JoinK G)).Mono := fun k k' v hle ⟨x, a, c, h1, h2, h3⟩ => ⟨x, a, c, h1, h2.le hle, h3⟩
def MemK : PH → Value → Prop := fun k v => ∃ a0 c0 a1 c1, v = .agg ((xm tA xBoth).cs a0 c0 a1 c1).toArray ∧ Sl tStr k a0 c0 [tT] ∧ Sl tTp k a1 c1 xBoth
theorem MemK.mono : (PV.such MemK).Mono := fun k k' v hle ⟨a0, c0, a1, c1, h1, h2, h3⟩ => ⟨a0, c0, a1, c1, h1, h2.le hle, h3.le hle⟩
def GrpO (q : Group × Int) : PH → Value → Prop := fun k v => ∃ a c, v = .agg (q.1.cs a c).toArray ∧ Sl tMember k a c q.1.l
theorem GrpO.mono {q : Group × Int} : (PV.such (GrpO q)).Mono := fun k k' v hle ⟨a, c, h1, h2⟩ => ⟨a, c, h1, h2.le hle⟩
def SynK (G : Group → Prop) (n : Nat) : PH → Value → Prop := fun k v => ∃ x a c a' c', v = .tuple #[.agg (x.cs a c).toArray, .slice a' n c', .int .i64 0] ∧ Sl tMember k a c x.l ∧ G x
theorem SynK.mono {G : Group → Prop} {n : Nat} : (PV.such (SynK G n)).Mono := fun k k' v hle ⟨x, a, c, a', c', h1, h2, h3⟩ => ⟨x, a, c, a', c', h1, h2.le hle, h3⟩
def GrpK (G : Group → Prop) : PH → Value → Prop := fun k v => ∃ x a c, v = .agg (x.cs a c).toArray ∧ Sl tMember k a c x.l ∧ G x
theorem GrpK.mono {G : Group → Prop} : (PV.such (GrpK G)).Mono := fun k k' v hle ⟨x, a, c, h1, h2, h3⟩ => ⟨x, a, c, h1, h2.le hle, h3⟩
def BothV : PH → Value → Prop := fun k v => ∃ a c, v = .slice a xBoth.length c ∧ Sl tTp k a c xBoth
theorem BothV.mono : (PV.such BothV).Mono := fun k k' v hle ⟨a, c, h1, h2⟩ => ⟨a, c, h1, h2.le hle⟩
attribute [local irreducible] RG CG EG WA Loc Det Alc CT Exit.then Exit.inBlock Code.wp bodyPost
theorem both_ct {k : PH} : CT Tryz.prog 21 #[] k BothV := by
  refine ct_of_body (l := []) Tryz.func21 rfl Tryz.ntmps21 (by simp) BothV.mono fun F hF0 hFm => ?_
  repeat (first | refine cg_seq ?_ | refine cg_region ?_ | refine rg_nil ?_ | refine eg_then ?_ | refine qsp ?_)
  refine rs rfl rfl (loc_det rfl (d_lit (cells := xP0.vs) rfl rfl rfl)) ?_
  refine rs rfl rfl (loc_det rfl (d_lit (cells := xP1.vs) rfl rfl rfl)) ?_
  refine rb rfl rfl rfl rfl (a_slice (cells := xBoth.flatMap Tp.vs) rfl rfl rfl rfl (by kernel_rfl) rfl) ?_; intro b1 k1 hb1 hN1 hle1 hk1
  have hsl : Sl tTp k1 (some ⟨b1, 0, none⟩) 2 xBoth := sl_flat (xs := xBoth) hk1 rfl (fun x hx => ⟨rfl, tokP x hx⟩) (by simp [maxLen, xBoth])
  repeat (first | refine rg_nil ?_ | refine eg_then ?_ | refine qsp ?_ | refine cg_ret ?_)
  exact eg_return rfl rfl ⟨_, _, rfl, hsl⟩
set_option maxHeartbeats 4000000 in
theorem live_ct {k : PH} : CT Tryz.prog 5 #[] k (fun _ v => v = .bool true) := by
  refine ct_of_body (l := []) Tryz.func5 rfl Tryz.ntmps5 (by simp) (fun _ _ _ _ h => h) fun F hF0 hFm => ?_
  have hT : ∀ x ∈ [tT], x.size ≤ maxLen := fun x hx => by simp at hx; rw [hx]; decide
  repeat (first | refine cg_seq ?_ | refine cg_region ?_ | refine rg_nil ?_ | refine eg_then ?_ | refine qsp ?_)
  refine rv rfl rfl rfl (loc_call rfl rfl rfl rfl GrpV.mono (new_ct tG (by decide))) ?_
  rintro k1 hle1 _ ⟨a1, c1, rfl, h1⟩
  rw [ex_new] at h1 ⊢
  repeat (first | refine qsp ?_)
  refine rb rfl rfl rfl rfl (a_alloc rfl) ?_; intro b2 k2 hb2 hN2 hle2 hk2
  refine rw1 (vs := xg0.cs a1 c1) rfl rfl rfl rfl rfl rfl rfl hk2 rfl (.inl hN2) (by simp [Group.cs, Value.oneCell']) ?_
  intro k3 ht3 hk3
  have h1 := h1.le (ht3 k1 hle2 hb2)
  have d3 := cells_at (vs := xg0.cs a1 c1) hk3 rfl
  repeat (first | refine cg_seq ?_ | refine cg_region ?_ | refine rg_nil ?_ | refine eg_then ?_ | refine qsp ?_ | refine qsg ?_)
  refine rb rfl rfl rfl rfl (a_slice (cells := [tT].flatMap strV) rfl rfl rfl rfl (by kernel_rfl) rfl) ?_; intro b4 k4 hb4 hN4 hle4 hk4
  have hs4 : Sl tStr k4 (some ⟨b4, 0, none⟩) 1 [tT] := sl_flat (xs := [tT]) (f := strV) hk4 rfl (fun x hx => ⟨rfl, hT x hx⟩) (by simp [maxLen])
  skip
  refine rs rfl rfl (loc_det rfl (d_lit (cells := (xm tA []).cs (some ⟨b4, 0, none⟩) 1 none 0) rfl rfl rfl)) ?_
  refine rv rfl rfl rfl (loc_call rfl rfl rfl rfl GrpV.mono (join_ct (g := xg0) (m := xm tA []) (h1.le hle4) xg_oks.1 xg_small.1 hs4 (sl_nilTp _) (xm_ok _ _ (by decide)) (by decide) (by decide) 1 (by unfold I64; decide))) ?_
  rintro k5 hle5 _ ⟨a5, c5, rfl, h5⟩
  rw [ex_a] at h5 ⊢
  clear h1 hs4 ht3 hk3 hk2 hk4 hle1 hle2 hle4 d3
  repeat (first | refine qsp ?_)
  refine rb rfl rfl rfl rfl (a_alloc rfl) ?_; intro b6 k6 hb6 hN6 hle6 hk6
  refine rw1 (vs := xga.cs a5 c5) rfl rfl rfl rfl rfl rfl rfl hk6 rfl (.inl hN6) (by simp [Group.cs, Value.oneCell']) ?_
  intro k7 ht7 hk7
  have h5 : Sl tMember k7 a5 c5 xga.l := h5.le (ht7 k5 hle6 hb6)
  have d7 := cells_at (vs := xga.cs a5 c5) hk7 rfl
  repeat (first | refine cg_seq ?_ | refine rg_nil ?_ | refine eg_then ?_ | refine qsp ?_)
  refine cg_newsto 11 7 8 5 24 (noG.cs none 0).toArray (fun k vs => ∃ (x : Group) (a : Option Addr) (c : Nat), vs = x.cs a c ∧ Sl tMember k a c x.l ∧ (fun x => x = xgb) x) (by kernel_rfl) (by kernel_rfl) rfl (by kernel_rfl) rfl rfl ?_
  dsimp only [List.take]
  repeat (first | refine qcg ?_)
  refine wc_v (φ := BothV) rfl (loc_call rfl rfl rfl rfl BothV.mono both_ct) rfl ?_
  refine wc_iv (φ := SynK (fun x => x = xgb) 2) rfl (LocI.elim 37 rfl (by kernel_rfl) SynK.mono fun v kq hkq ⟨aq, cq, eq, hsq⟩ => ?_) rfl ?_
  · subst eq
    refine LocI.of (loc_call rfl rfl rfl rfl SynK.mono (ct_imp (sync_ct (g := xga) (h5.le hkq) xg_oks.2.1 xg_small.2.1 hsq (by decide) tA 1 2 (by unfold I64; decide)) ?_))
    rintro k' v ⟨x, own, e, a, c, a', c', rfl, hx1, _, hS⟩
    obtain ⟨rfl, rfl, rfl⟩ := ex_b hS
    exact ⟨xgb, a, c, a', c', rfl, hx1, rfl⟩
  refine wc_iv (φ := SynK (fun x => x = xgb) 2) rfl (loci_pure (t := 38) rfl (by kernel_rfl) rfl SynK.mono fun v k1 _ h => ⟨v, rfl, h⟩) rfl ?_
  refine wc_iv (φ := GrpK (fun x => x = xgb)) rfl (loci_pure (t := 35) rfl (by kernel_rfl) rfl GrpK.mono fun v k1 _ ⟨x, a, c, a', c', e1, h2, h3⟩ => by subst e1; exact ⟨_, rfl, x, a, c, rfl, h2, h3⟩) rfl ?_
  refine wc_iv (φ := fun _ v => ∃ a' c', v = .slice a' 2 c') rfl (loci_pure (t := 35) rfl (by kernel_rfl) rfl (fun _ _ _ _ h => h) fun v k1 _ ⟨x, a, c, a', c', e1, h2, h3⟩ => by subst e1; exact ⟨_, rfl, a', c', rfl⟩) rfl ?_
  refine wc_iv (φ := fun _ v => v = .int .i64 0) rfl (loci_pure (t := 35) rfl (by kernel_rfl) rfl (fun _ _ _ _ h => h) fun v k1 _ ⟨x, a, c, a', c', e1, h2, h3⟩ => by subst e1; exact ⟨_, rfl, rfl⟩) rfl ?_
  refine wc_e 0 rfl (eff_new3 rfl rfl rfl (a_alloc rfl) rfl) ?_
  refine wc_e 1 rfl (eff_sto3 (φ := GrpK (fun x => x = xgb)) rfl rfl (Le.refl _) rfl rfl rfl (fun k u h => by
    obtain ⟨x, a, c, rfl, h2, h3⟩ := h
    exact ⟨_, rfl, ⟨x, a, c, rfl, h2, h3⟩, rfl, by simp [Group.cs, Value.oneCell']⟩) rfl) ?_
  refine wc_iv (φ := fun _ v => ∃ a' c', v = .slice a' 2 c') rfl (loci_pure (t := 40) rfl (by kernel_rfl) rfl (fun _ _ _ _ h => h) fun v k1 _ h => ⟨_, rfl, h⟩) rfl ?_
  refine wc_iv (φ := fun _ v => v = .int .i64 0) rfl (loci_pure (t := 41) rfl (by kernel_rfl) rfl (fun _ _ _ _ h => h) fun v k1 _ h => ⟨_, rfl, h⟩) rfl ?_
  refine wc_nil ?_
  intro k0 k8 vs b8 cells hle0 hΨ hle8 hb8 hN8 hda hvs
  obtain ⟨x, ax, cx, rfl, hx, hX⟩ := hΨ
  obtain ⟨ao8, co8, eo⟩ : ∃ a' c', vs 6 = .slice a' 2 c' := hvs 6 _ rfl
  have ee : vs 7 = .int .i64 0 := hvs 7 _ rfl
  clear hvs
  dsimp only [List.drop, set]
  simp only [nameE, nameP]
  rw [hda, eo, ee]
  generalize vs 39 = w1
  generalize vs 40 = w2
  generalize vs 41 = w3
  generalize vs 35 = w4
  generalize vs 38 = w5
  generalize vs 37 = w6
  have hk8' := upd_same k8 b8 (.cells (x.cs ax cx).toArray 24 (0, 0))
  have hle8z : Le k0 (upd k8 b8 (.cells (x.cs ax cx).toArray 24 (0, 0))) := (hle8).upd (by
    cases hc : k0 b8 with
    | none => rfl
    | some ob => have := hle8 _ _ hc; rw [hb8] at this; cases this)
  generalize upd k8 b8 (.cells (x.cs ax cx).toArray 24 (0, 0)) = k8z at hk8' hle8z ⊢
  have hle8 := hle0.trans hle8z
  clear hb8 hle0 hda eo ee
  subst hX
  have d8 := cells_at (vs := xgb.cs ax cx) hk8' rfl
  have d7 := d7.le hle8
  have hx := hx.le hle8z
  clear hk8' hle8 h5 ht7 hk7 hk6
  repeat (first | refine cg_seq ?_ | refine cg_region ?_ | refine rg_nil ?_ | refine eg_then ?_ | refine qsg ?_)
  refine rb rfl rfl rfl rfl (a_slice (cells := [tT].flatMap strV) rfl rfl rfl rfl (by kernel_rfl) rfl) ?_; intro b10 k10 hb10 hN10 hle10 hk10
  have hs10 : Sl tStr k10 (some ⟨b10, 0, none⟩) 1 [tT] := sl_flat (xs := [tT]) (f := strV) hk10 rfl (fun x hx => ⟨rfl, hT x hx⟩) (by simp [maxLen])
  have d7 := d7.le hle10
  skip
  refine rs rfl rfl (loc_det rfl (d_lit (cells := (xm tB []).cs (some ⟨b10, 0, none⟩) 1 none 0) rfl rfl rfl)) ?_
  refine rv rfl rfl rfl (loc_call rfl rfl rfl rfl GrpV.mono (join_ct (g := xgb) (m := xm tB []) (hx.le hle10) xg_oks.2.2.1 xg_small.2.2.1 hs10 (sl_nilTp _) (xm_ok _ _ (by decide)) (by decide) (by decide) 3 (by unfold I64; decide))) ?_
  rintro k11 hle11 _ ⟨a11, c11, rfl, h11⟩
  rw [ex_c] at h11 ⊢
  have d7 := d7.le hle11
  clear hx hs10 hk10 hle10 d8
  repeat (first | refine qsp ?_)
  refine rb rfl rfl rfl rfl (a_alloc rfl) ?_; intro b12 k12 hb12 hN12 hle12 hk12
  refine rw1 (vs := xgc.cs a11 c11) rfl rfl rfl rfl rfl rfl rfl hk12 rfl (.inl hN12) (by simp [Group.cs, Value.oneCell']) ?_
  intro k13 ht13 hk13
  have hle13 := ht13 k11 hle12 hb12
  have h13 : Sl tMember k13 a11 c11 xgc.l := h11.le hle13
  have d7 := d7.le hle13
  have d13 := cells_at (vs := xgc.cs a11 c11) hk13 rfl
  clear h11 ht13 hle13 hk13 hk12 hle12 hle11
  repeat (first | refine cg_seq ?_ | refine cg_region ?_ | refine rg_nil ?_ | refine eg_then ?_ | refine qsp ?_ | refine qsg ?_)
  refine rv rfl rfl rfl (loc_call rfl rfl rfl rfl GrpV.mono (beat_ct (g := xgc) h13 xg_oks.2.2.2.1 xg_small.2.2.2.1 tA 1 4 (by unfold I64; decide))) ?_
  rintro k14 hle14 _ ⟨a14, c14, rfl, h14⟩
  rw [ex_k]
  have d7 := d7.le hle14
  have d13 := d13.le hle14
  have h13 := h13.le hle14
  generalize (beatG xgc tA 1 4).1 = gk at h14 ⊢
  repeat (first | refine qsp ?_)
  refine rb rfl rfl rfl rfl (a_alloc rfl) ?_; intro b15 k15 hb15 hN15 hle15 hk15
  refine rw1 (vs := gk.cs a14 c14) rfl rfl rfl rfl rfl rfl rfl hk15 rfl (.inl hN15) (by simp [Group.cs, Value.oneCell']) ?_
  intro k16 ht16 hk16
  have hle16 := ht16 k14 hle15 hb15
  have d7 := d7.le hle16
  have d13 := d13.le hle16
  have h13 := h13.le hle16
  clear h14 ht16 hle16 hk16 hk15 hle15 hle14
  repeat (first | refine cg_seq ?_ | refine rg_nil ?_ | refine eg_then ?_ | refine qsp ?_)
  refine cg_newsto 11 8 9 12 24 (noG.cs none 0).toArray (fun k vs => ∃ (x : Group) (a : Option Addr) (c : Nat), vs = x.cs a c ∧ Sl tMember k a c x.l ∧ x = xgd) (by kernel_rfl) (by kernel_rfl) rfl (by kernel_rfl) rfl rfl ?_
  dsimp only [List.take]
  repeat (first | refine qcg ?_)
  refine wc_v rfl (loc_alloc rfl (a_slice (cells := [tT].flatMap strV) rfl rfl rfl rfl (by kernel_rfl) rfl)) rfl ?_
  refine wc_v (φ := BothV) rfl (loc_call rfl rfl rfl rfl BothV.mono both_ct) rfl ?_
  refine wc_iv (φ := MemK) rfl (LocI.elim 56 rfl (by kernel_rfl) MemK.mono fun v kq hkq ⟨bq, eq, hbq, _⟩ => LocI.elim 57 rfl (by kernel_rfl) MemK.mono fun v2 kr hkr ⟨ar, cr, er, hsr⟩ => ?_) rfl ?_
  · subst eq
    subst er
    exact loci_such MemK.mono (loc_det rfl (d_lit (cells := (xm tA xBoth).cs (some ⟨bq, 0, none⟩) 1 ar cr) rfl rfl rfl)) rfl ⟨_, _, _, _, rfl, (sl_flat (T := tStr) (xs := [tT]) (f := strV) hbq rfl (fun x hx => ⟨rfl, hT x hx⟩) (by simp [maxLen])).le hkr, hsr⟩
  refine wc_iv (φ := JoinK (fun x => x = xgd)) rfl (LocI.elim 58 rfl (by kernel_rfl) JoinK.mono fun v kq hkq ⟨q0, e0, q1, e1, eq, hq1, hq2⟩ => ?_) rfl ?_
  · subst eq
    refine LocI.of (loc_call rfl rfl rfl rfl JoinK.mono (ct_imp (join_ct (g := xgc) (m := xm tA xBoth) (h13.le hkq) xg_oks.2.2.2.1 xg_small.2.2.2.1 hq1 hq2 (xm_ok _ _ (by decide)) (by decide) (by decide) 5 (by unfold I64; decide)) ?_))
    rintro k' v ⟨a, c, rfl, hx1⟩
    rw [ex_d] at hx1 ⊢
    exact ⟨xgd, a, c, rfl, hx1, rfl⟩
  refine wc_iv (φ := JoinK (fun x => x = xgd)) rfl (loci_pure (t := 59) rfl (by kernel_rfl) rfl JoinK.mono fun v k1 _ h => ⟨v, rfl, h⟩) rfl ?_
  refine wc_iv (φ := GrpK (fun x => x = xgd)) rfl (loci_pure (t := 54) rfl (by kernel_rfl) rfl GrpK.mono fun v k1 _ ⟨x, a, c, e1, h2, h3⟩ => by subst e1; exact ⟨_, rfl, x, a, c, rfl, h2, h3⟩) rfl ?_
  refine wc_iv (φ := fun _ v => v = .int .i64 0) rfl (loci_pure (t := 54) rfl (by kernel_rfl) rfl (fun _ _ _ _ h => h) fun v k1 _ ⟨x, a, c, e1, h2, h3⟩ => by subst e1; exact ⟨_, rfl, rfl⟩) rfl ?_
  refine wc_e 0 rfl (eff_new3 rfl rfl rfl (a_alloc rfl) rfl) ?_
  refine wc_e 1 rfl (eff_sto3 (φ := GrpK (fun x => x = xgd)) rfl rfl (Le.refl _) rfl rfl rfl (fun k u h => by
    obtain ⟨x, a, c, rfl, h2, h3⟩ := h
    exact ⟨_, rfl, ⟨x, a, c, rfl, h2, h3⟩, rfl, by simp [Group.cs, Value.oneCell']⟩) rfl) ?_
  refine wc_iv (φ := fun _ v => v = .int .i64 0) rfl (loci_pure (t := 61) rfl (by kernel_rfl) rfl (fun _ _ _ _ h => h) fun v k1 _ h => ⟨_, rfl, h⟩) rfl ?_
  refine wc_nil ?_
  intro k0 k17 vs b17 cells hle0 hΨ hle17 hb17 hN17 hda hvs
  obtain ⟨x, ax, cx, rfl, hx, rfl⟩ := hΨ
  have ee : vs 13 = .int .i64 0 := hvs 13 _ rfl
  clear hvs
  dsimp only [List.drop, set]
  simp only [nameE, nameP]
  rw [hda, ee]
  generalize vs 56 = w1
  generalize vs 57 = w2
  generalize vs 58 = w3
  generalize vs 59 = w4
  generalize vs 54 = w5
  generalize vs 60 = w6
  generalize vs 61 = w7
  have hk17' := upd_same k17 b17 (.cells (xgd.cs ax cx).toArray 24 (0, 0))
  have hle17z : Le k0 (upd k17 b17 (.cells (xgd.cs ax cx).toArray 24 (0, 0))) := hle17.upd (by
    cases hc : k0 b17 with
    | none => rfl
    | some ob => have := hle17 _ _ hc; rw [hb17] at this; cases this)
  generalize upd k17 b17 (.cells (xgd.cs ax cx).toArray 24 (0, 0)) = k17z at hk17' hle17z ⊢
  have h17 : Sl tMember k17z ax cx xgd.l := hx.le hle17z
  have hle17 := hle0.trans hle17z
  have d7 := d7.le hle17
  have d13 := d13.le hle17
  have d17 := cells_at (vs := xgd.cs ax cx) hk17' rfl
  clear hb17 hle0 hda ee hle17z hle17 h13 hx hk17'
  repeat (first | refine cg_seq ?_ | refine rg_nil ?_ | refine eg_then ?_)
  refine cg_newsto 11 7 8 14 24 (noG.cs none 0).toArray (fun k vs => ∃ (x : Group) (a : Option Addr) (c : Nat), vs = x.cs a c ∧ Sl tMember k a c x.l ∧ (fun _ => True) x) (by kernel_rfl) (by kernel_rfl) rfl (by kernel_rfl) rfl rfl ?_
  dsimp only [List.take]
  repeat (first | refine qcg ?_)
  refine wc_v (φ := BothV) rfl (loc_call rfl rfl rfl rfl BothV.mono both_ct) rfl ?_
  refine wc_iv (φ := SynK (fun _ => True) 0) rfl (LocI.elim 64 rfl (by kernel_rfl) SynK.mono fun v kq hkq ⟨aq, cq, eq, hsq⟩ => ?_) rfl ?_
  · subst eq
    refine LocI.of (loc_call rfl rfl rfl rfl SynK.mono (ct_imp (sync_ct (g := xgd) (h17.le hkq) xg_oks.2.2.2.2.1 xg_small.2.2.2.2.1 hsq (by decide) tB 2 6 (by unfold I64; decide)) ?_))
    rintro k' v ⟨x, own, e, a, c, a', c', rfl, hx1, _, hS⟩
    obtain ⟨rfl, rfl⟩ := ex_f hS
    exact ⟨x, a, c, a', c', rfl, hx1, trivial⟩
  refine wc_iv (φ := SynK (fun _ => True) 0) rfl (loci_pure (t := 65) rfl (by kernel_rfl) rfl SynK.mono fun v k1 _ h => ⟨v, rfl, h⟩) rfl ?_
  refine wc_iv (φ := GrpK (fun _ => True)) rfl (loci_pure (t := 62) rfl (by kernel_rfl) rfl GrpK.mono fun v k1 _ ⟨x, a, c, a', c', e1, h2, h3⟩ => by subst e1; exact ⟨_, rfl, x, a, c, rfl, h2, h3⟩) rfl ?_
  refine wc_iv (φ := fun _ v => ∃ a' c', v = .slice a' 0 c') rfl (loci_pure (t := 62) rfl (by kernel_rfl) rfl (fun _ _ _ _ h => h) fun v k1 _ ⟨x, a, c, a', c', e1, h2, h3⟩ => by subst e1; exact ⟨_, rfl, a', c', rfl⟩) rfl ?_
  refine wc_iv (φ := fun _ v => v = .int .i64 0) rfl (loci_pure (t := 62) rfl (by kernel_rfl) rfl (fun _ _ _ _ h => h) fun v k1 _ ⟨x, a, c, a', c', e1, h2, h3⟩ => by subst e1; exact ⟨_, rfl, rfl⟩) rfl ?_
  refine wc_e 0 rfl (eff_new3 rfl rfl rfl (a_alloc rfl) rfl) ?_
  refine wc_e 1 rfl (eff_sto3 (φ := GrpK (fun _ => True)) rfl rfl (Le.refl _) rfl rfl rfl (fun k u h => by
    obtain ⟨x, a, c, rfl, h2, h3⟩ := h
    exact ⟨_, rfl, ⟨x, a, c, rfl, h2, h3⟩, rfl, by simp [Group.cs, Value.oneCell']⟩) rfl) ?_
  refine wc_iv (φ := fun _ v => ∃ a' c', v = .slice a' 0 c') rfl (loci_pure (t := 67) rfl (by kernel_rfl) rfl (fun _ _ _ _ h => h) fun v k1 _ h => ⟨_, rfl, h⟩) rfl ?_
  refine wc_iv (φ := fun _ v => v = .int .i64 0) rfl (loci_pure (t := 68) rfl (by kernel_rfl) rfl (fun _ _ _ _ h => h) fun v k1 _ h => ⟨_, rfl, h⟩) rfl ?_
  refine wc_nil ?_
  intro k0 k18 vs b18 cells hle0 hΨ hle18 hb18 hN18 hda hvs
  obtain ⟨x, ax, cx, rfl, hx, hX⟩ := hΨ
  obtain ⟨ao18, co18, eo⟩ : ∃ a' c', vs 15 = .slice a' 0 c' := hvs 15 _ rfl
  have ee : vs 16 = .int .i64 0 := hvs 16 _ rfl
  clear hvs
  dsimp only [List.drop, set]
  simp only [nameE, nameP]
  rw [hda, eo, ee]
  generalize vs 66 = w1
  generalize vs 67 = w2
  generalize vs 68 = w3
  generalize vs 62 = w4
  generalize vs 65 = w5
  generalize vs 64 = w6
  have hk18' := upd_same k18 b18 (.cells (x.cs ax cx).toArray 24 (0, 0))
  have hle18z : Le k0 (upd k18 b18 (.cells (x.cs ax cx).toArray 24 (0, 0))) := (hle18).upd (by
    cases hc : k0 b18 with
    | none => rfl
    | some ob => have := hle18 _ _ hc; rw [hb18] at this; cases this)
  generalize upd k18 b18 (.cells (x.cs ax cx).toArray 24 (0, 0)) = k18z at hk18' hle18z ⊢
  have hle18 := hle0.trans hle18z
  clear hb18 hle0 hda eo ee
  have d7 := d7.le hle18
  have d13 := d13.le hle18
  have d17 := d17.le hle18
  have h17 := h17.le hle18
  clear hk18' hle18 hle18z hx hX
  repeat (first | refine cg_seq ?_ | refine rg_nil ?_ | refine eg_then ?_)
  refine cg_newsto 11 7 8 17 24 (noG.cs none 0).toArray (fun k vs => ∃ (x : Group) (a : Option Addr) (c : Nat), vs = x.cs a c ∧ Sl tMember k a c x.l ∧ (fun x => x = xgx) x) (by kernel_rfl) (by kernel_rfl) rfl (by kernel_rfl) rfl rfl ?_
  dsimp only [List.take]
  repeat (first | refine qcg ?_)
  refine wc_v (φ := BothV) rfl (loc_call rfl rfl rfl rfl BothV.mono both_ct) rfl ?_
  refine wc_iv (φ := SynK (fun x => x = xgx) 1) rfl (LocI.elim 71 rfl (by kernel_rfl) SynK.mono fun v kq hkq ⟨aq, cq, eq, hsq⟩ => ?_) rfl ?_
  · subst eq
    refine LocI.of (loc_call rfl rfl rfl rfl SynK.mono (ct_imp (sync_ct (g := xgd) (h17.le hkq) xg_oks.2.2.2.2.1 xg_small.2.2.2.2.1 hsq (by decide) tA 2 7 (by unfold I64; decide)) ?_))
    rintro k' v ⟨x, own, e, a, c, a', c', rfl, hx1, _, hS⟩
    obtain ⟨rfl, hol, rfl⟩ := ex_x hS
    exact ⟨xgx, a, c, a', c', by rw [hol], hx1, rfl⟩
  refine wc_iv (φ := SynK (fun x => x = xgx) 1) rfl (loci_pure (t := 72) rfl (by kernel_rfl) rfl SynK.mono fun v k1 _ h => ⟨v, rfl, h⟩) rfl ?_
  refine wc_iv (φ := GrpK (fun x => x = xgx)) rfl (loci_pure (t := 69) rfl (by kernel_rfl) rfl GrpK.mono fun v k1 _ ⟨x, a, c, a', c', e1, h2, h3⟩ => by subst e1; exact ⟨_, rfl, x, a, c, rfl, h2, h3⟩) rfl ?_
  refine wc_iv (φ := fun _ v => ∃ a' c', v = .slice a' 1 c') rfl (loci_pure (t := 69) rfl (by kernel_rfl) rfl (fun _ _ _ _ h => h) fun v k1 _ ⟨x, a, c, a', c', e1, h2, h3⟩ => by subst e1; exact ⟨_, rfl, a', c', rfl⟩) rfl ?_
  refine wc_iv (φ := fun _ v => v = .int .i64 0) rfl (loci_pure (t := 69) rfl (by kernel_rfl) rfl (fun _ _ _ _ h => h) fun v k1 _ ⟨x, a, c, a', c', e1, h2, h3⟩ => by subst e1; exact ⟨_, rfl, rfl⟩) rfl ?_
  refine wc_e 0 rfl (eff_new3 rfl rfl rfl (a_alloc rfl) rfl) ?_
  refine wc_e 1 rfl (eff_sto3 (φ := GrpK (fun x => x = xgx)) rfl rfl (Le.refl _) rfl rfl rfl (fun k u h => by
    obtain ⟨x, a, c, rfl, h2, h3⟩ := h
    exact ⟨_, rfl, ⟨x, a, c, rfl, h2, h3⟩, rfl, by simp [Group.cs, Value.oneCell']⟩) rfl) ?_
  refine wc_iv (φ := fun _ v => ∃ a' c', v = .slice a' 1 c') rfl (loci_pure (t := 74) rfl (by kernel_rfl) rfl (fun _ _ _ _ h => h) fun v k1 _ h => ⟨_, rfl, h⟩) rfl ?_
  refine wc_iv (φ := fun _ v => v = .int .i64 0) rfl (loci_pure (t := 75) rfl (by kernel_rfl) rfl (fun _ _ _ _ h => h) fun v k1 _ h => ⟨_, rfl, h⟩) rfl ?_
  refine wc_nil ?_
  intro k0 k19 vs b19 cells hle0 hΨ hle19 hb19 hN19 hda hvs
  obtain ⟨x, ax, cx, rfl, hx, hX⟩ := hΨ
  obtain ⟨ao19, co19, eo⟩ : ∃ a' c', vs 18 = .slice a' 1 c' := hvs 18 _ rfl
  have ee : vs 19 = .int .i64 0 := hvs 19 _ rfl
  clear hvs
  dsimp only [List.drop, set]
  simp only [nameE, nameP]
  rw [hda, eo, ee]
  generalize vs 73 = w1
  generalize vs 74 = w2
  generalize vs 75 = w3
  generalize vs 69 = w4
  generalize vs 72 = w5
  generalize vs 71 = w6
  have hk19' := upd_same k19 b19 (.cells (x.cs ax cx).toArray 24 (0, 0))
  have hle19z : Le k0 (upd k19 b19 (.cells (x.cs ax cx).toArray 24 (0, 0))) := (hle19).upd (by
    cases hc : k0 b19 with
    | none => rfl
    | some ob => have := hle19 _ _ hc; rw [hb19] at this; cases this)
  generalize upd k19 b19 (.cells (x.cs ax cx).toArray 24 (0, 0)) = k19z at hk19' hle19z ⊢
  have hle19 := hle0.trans hle19z
  clear hb19 hle0 hda eo ee
  subst hX
  have d19 := cells_at (vs := xgx.cs ax cx) hk19' rfl
  have h19 : Sl tMember k19z ax cx xgx.l := hx.le hle19z
  have d7 := d7.le hle19
  have d13 := d13.le hle19
  have d17 := d17.le hle19
  have h17 := h17.le hle19
  clear hk19' hle19 hle19z hx
  repeat (first | refine cg_seq ?_ | refine rg_nil ?_ | refine eg_then ?_)
  refine cg_newsto 11 7 8 20 24 (noG.cs none 0).toArray (fun k vs => ∃ (x : Group) (a : Option Addr) (c : Nat), vs = x.cs a c ∧ Sl tMember k a c x.l ∧ (fun _ => True) x) (by kernel_rfl) (by kernel_rfl) rfl (by kernel_rfl) rfl rfl ?_
  dsimp only [List.take]
  repeat (first | refine qcg ?_)
  refine wc_v (φ := BothV) rfl (loc_call rfl rfl rfl rfl BothV.mono both_ct) rfl ?_
  refine wc_iv (φ := SynK (fun _ => True) 1) rfl (LocI.elim 78 rfl (by kernel_rfl) SynK.mono fun v kq hkq ⟨aq, cq, eq, hsq⟩ => ?_) rfl ?_
  · subst eq
    refine LocI.of (loc_call rfl rfl rfl rfl SynK.mono (ct_imp (sync_ct (g := xgx) (h19.le hkq) xg_oks.2.2.2.2.2 xg_small.2.2.2.2.2 hsq (by decide) tB 2 8 (by unfold I64; decide)) ?_))
    rintro k' v ⟨x, own, e, a, c, a', c', rfl, hx1, _, hS⟩
    obtain ⟨hol, rfl⟩ := ex_y hS
    exact ⟨x, a, c, a', c', by rw [hol], hx1, trivial⟩
  refine wc_iv (φ := SynK (fun _ => True) 1) rfl (loci_pure (t := 79) rfl (by kernel_rfl) rfl SynK.mono fun v k1 _ h => ⟨v, rfl, h⟩) rfl ?_
  refine wc_iv (φ := GrpK (fun _ => True)) rfl (loci_pure (t := 76) rfl (by kernel_rfl) rfl GrpK.mono fun v k1 _ ⟨x, a, c, a', c', e1, h2, h3⟩ => by subst e1; exact ⟨_, rfl, x, a, c, rfl, h2, h3⟩) rfl ?_
  refine wc_iv (φ := fun _ v => ∃ a' c', v = .slice a' 1 c') rfl (loci_pure (t := 76) rfl (by kernel_rfl) rfl (fun _ _ _ _ h => h) fun v k1 _ ⟨x, a, c, a', c', e1, h2, h3⟩ => by subst e1; exact ⟨_, rfl, a', c', rfl⟩) rfl ?_
  refine wc_iv (φ := fun _ v => v = .int .i64 0) rfl (loci_pure (t := 76) rfl (by kernel_rfl) rfl (fun _ _ _ _ h => h) fun v k1 _ ⟨x, a, c, a', c', e1, h2, h3⟩ => by subst e1; exact ⟨_, rfl, rfl⟩) rfl ?_
  refine wc_e 0 rfl (eff_new3 rfl rfl rfl (a_alloc rfl) rfl) ?_
  refine wc_e 1 rfl (eff_sto3 (φ := GrpK (fun _ => True)) rfl rfl (Le.refl _) rfl rfl rfl (fun k u h => by
    obtain ⟨x, a, c, rfl, h2, h3⟩ := h
    exact ⟨_, rfl, ⟨x, a, c, rfl, h2, h3⟩, rfl, by simp [Group.cs, Value.oneCell']⟩) rfl) ?_
  refine wc_iv (φ := fun _ v => ∃ a' c', v = .slice a' 1 c') rfl (loci_pure (t := 81) rfl (by kernel_rfl) rfl (fun _ _ _ _ h => h) fun v k1 _ h => ⟨_, rfl, h⟩) rfl ?_
  refine wc_iv (φ := fun _ v => v = .int .i64 0) rfl (loci_pure (t := 82) rfl (by kernel_rfl) rfl (fun _ _ _ _ h => h) fun v k1 _ h => ⟨_, rfl, h⟩) rfl ?_
  refine wc_nil ?_
  intro k0 k20 vs b20 cells hle0 hΨ hle20 hb20 hN20 hda hvs
  obtain ⟨x, ax, cx, rfl, hx, hX⟩ := hΨ
  obtain ⟨ao20, co20, eo⟩ : ∃ a' c', vs 21 = .slice a' 1 c' := hvs 21 _ rfl
  have ee : vs 22 = .int .i64 0 := hvs 22 _ rfl
  clear hvs
  dsimp only [List.drop, set]
  simp only [nameE, nameP]
  rw [hda, eo, ee]
  generalize vs 80 = w1
  generalize vs 81 = w2
  generalize vs 82 = w3
  generalize vs 76 = w4
  generalize vs 79 = w5
  generalize vs 78 = w6
  have hk20' := upd_same k20 b20 (.cells (x.cs ax cx).toArray 24 (0, 0))
  have hle20z : Le k0 (upd k20 b20 (.cells (x.cs ax cx).toArray 24 (0, 0))) := (hle20).upd (by
    cases hc : k0 b20 with
    | none => rfl
    | some ob => have := hle20 _ _ hc; rw [hb20] at this; cases this)
  generalize upd k20 b20 (.cells (x.cs ax cx).toArray 24 (0, 0)) = k20z at hk20' hle20z ⊢
  have hle20 := hle0.trans hle20z
  clear hb20 hle0 hda eo ee
  have d7 := d7.le hle20
  have d13 := d13.le hle20
  have d17 := d17.le hle20
  have h17 := h17.le hle20
  clear hk20' hle20 hle20z hx hX d19 h19
  obtain ⟨q0, q1, q2, q3⟩ := Group.parts d7
  obtain ⟨r0, r1, r2, r3⟩ := Group.parts d13
  obtain ⟨s0, s1, s2, s3⟩ := Group.parts d17
  have f1 := fence_ct (g := xgd) h17 xg_oks.2.2.2.2.1 xg_small.2.2.2.2.1 tA 1
  have f2 := fence_ct (g := xgd) h17 xg_oks.2.2.2.2.1 xg_small.2.2.2.2.1 tA 2
  have f3 := fence_ct (g := xgd) h17 xg_oks.2.2.2.2.1 xg_small.2.2.2.2.1 tC 2
  have f4 := check_ct (g := xgd) h17 xg_oks.2.2.2.2.1
  rw [ex_f1] at f1
  rw [ex_f2] at f2
  rw [ex_f3] at f3
  rw [ex_chk] at f4
  repeat (first | refine cg_seq ?_ | refine cg_region ?_ | refine rg_nil ?_ | refine eg_then ?_ | refine qsp ?_ | refine qsn ?_ | refine qsl ?_ | refine qsf ?_)
  clear s0 s1 s2 s3
  repeat (first | refine qsg ?_)
  refine rs rfl rfl (loc_call_is rfl rfl rfl rfl (f1)) ?_
  repeat (first | refine qsp ?_ | refine qsg ?_)
  refine rs rfl rfl (loc_call_is rfl rfl rfl rfl (f2)) ?_
  repeat (first | refine qsp ?_ | refine qsg ?_)
  refine rs rfl rfl (loc_call_is rfl rfl rfl rfl (f3)) ?_
  repeat (first | refine qsp ?_ | refine qsg ?_)
  refine rs rfl rfl (loc_call_is rfl rfl rfl rfl (f4)) ?_
  repeat (first | refine rg_nil ?_ | refine eg_then ?_ | refine qsp ?_ | refine cg_ret ?_)
  exact eg_return rfl rfl rfl
end Go.Wm

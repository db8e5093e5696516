/-
  The walk of the law on a round. Conditions: that what is handed in reads as data.
-/
import Derived.Test.YtnijbmmghpbmgaaK14
set_option linter.all false
namespace Go.Wm
open Go.RowKit Go.Proofs
def SynN : PH → Value → Prop := fun k v => ∃ a c a' c', v = .tuple #[.agg (noG.cs a c).toArray, .slice a' 0 c', .int .i64 232] ∧ Sl tMember k a c noG.l
theorem SynN.mono : (PV.such SynN).Mono := fun k k' v hle ⟨a, c, a', c', h1, h2⟩ => ⟨a, c, a', c', h1, h2.le hle⟩
attribute [local irreducible] RG CG EG WA Loc Det Alc CT Exit.then Exit.inBlock Code.wp bodyPost
set_option maxHeartbeats 8000000 in
theorem groupRounds_walk {k : PH} {g : Group} {cg : List Value} (hg : tGroup.rep k cg g) (hsml : g.small) {m : Member} {cm : List Value} (hm : tMember.rep k cm m) (hmsml : m.small) {now : Int} (hnow : I64 now) : CT Try.prog 4 #[.agg cg.toArray, .agg cm.toArray, .int .i64 now] k (fun _ v => v = .bool true) := by
  obtain ⟨a, c, rfl, hl, hok⟩ := hg
  have hm0 := hm
  obtain ⟨ma, mc, mo, mp, rfl, ⟨hms, hmo⟩, hmok⟩ := hm
  have hsm := Group.smallG hsml
  have hmb := Member.smallS hmsml
  refine ct_of_body (l := [_, _, _]) Try.func4 rfl Try.ntmps4 (by simp) (fun _ _ _ _ h => h) fun F hF0 hFm => ?_
  have b1 := hl.cap; have b2 := hl.max; unfold maxLen at b2
  repeat (first | refine cg_seq ?_ | refine cg_region ?_)
  refine rb rfl rfl rfl rfl (a_box rfl rfl) ?_; intro b3 k3 hb3 hN3 hle3 hk3
  skip
  refine rb rfl rfl rfl rfl (a_box rfl rfl) ?_; intro b4 k4 hb4 hN4 hle4 hk4
  have hk := hle3.trans hle4
  have hl := hl.le hk
  have hms := hms.le hk
  have hmo := hmo.le hk
  have hm0 := tMember.mono hk hm0
  have c3 := (cells_at (vs := g.cs a c) hk3 rfl).le hle4
  have c4 := cells_at (vs := m.cs ma mc mo mp) hk4 rfl
  repeat (first | refine cg_seq ?_ | refine cg_region ?_ | refine rg_nil ?_ | refine eg_then ?_ | refine qsp ?_)
  refine rs rfl rfl (loc_call_is rfl rfl rfl rfl (live_ct)) ?_
  repeat (first | refine cg_seq ?_ | refine cg_region ?_ | refine rg_nil ?_ | refine eg_then ?_ | refine qsp ?_ | refine qsg ?_ | refine cg_cond_false rfl ?_ | refine cg_skip ?_)
  refine rs rfl rfl (loc_call_is rfl rfl rfl rfl (fewM_ct hm0)) ?_
  repeat (first | refine cg_seq ?_ | refine cg_region ?_ | refine rg_nil ?_ | refine eg_then ?_ | refine qsp ?_ | refine qsg ?_)
  refine rs rfl rfl (loc_call_is rfl rfl rfl rfl (few_ct hl)) ?_
  cases q1 : fewG g
  · repeat (first | refine cg_seq ?_ | refine cg_region ?_ | refine rg_nil ?_ | refine eg_then ?_ | refine qsp ?_ | refine qso ?_ | refine cg_cond_true rfl ?_ | refine cg_ret ?_ | refine eg_then_ret ?_)
    exact eg_return rfl rfl rfl
  repeat (first | refine qsp ?_)
  cases q2 : fewM m
  · repeat (first | refine cg_seq ?_ | refine cg_region ?_ | refine rg_nil ?_ | refine eg_then ?_ | refine qsp ?_ | refine qso ?_ | refine cg_cond_true rfl ?_ | refine cg_ret ?_ | refine eg_then_ret ?_)
    exact eg_return rfl rfl rfl
  have p1 := (Group.parts c3).2.1
  have p2 := (Group.parts c3).2.2.1
  have p3 := (Group.parts c3).2.2.2
  repeat (first | refine qsp ?_ | refine qsl ?_ | refine qsf ?_)
  cases q5 : (g.state != 2)
  case true =>
    repeat (first | refine cg_seq ?_ | refine cg_region ?_ | refine rg_nil ?_ | refine eg_then ?_ | refine qsp ?_ | refine qso ?_ | refine cg_cond_true rfl ?_ | refine cg_ret ?_ | refine eg_then_ret ?_)
    exact eg_return rfl rfl rfl
  have q5 : g.state = 2 := by simpa using q5
  have m0 := (Member.parts c4).1
  have m1 := (Member.parts c4).2.1
  repeat (first | refine qsl ?_ | refine qsg ?_ | refine qsf ?_)
  refine rs rfl rfl (loc_call_is rfl rfl rfl rfl (refFind_ct hl m.id)) ?_
  repeat (first | refine qsp ?_)
  rw [idx_has]
  cases q7 : hasId m.id g.l
  case true =>
    repeat (first | refine cg_seq ?_ | refine cg_region ?_ | refine rg_nil ?_ | refine eg_then ?_ | refine qsp ?_ | refine qso ?_ | refine cg_cond_true rfl ?_ | refine cg_ret ?_ | refine eg_then_ret ?_)
    exact eg_return rfl rfl rfl
  repeat (first | refine rg_nil ?_ | refine eg_then ?_ | refine qsp ?_ | refine qsl ?_ | refine qsf ?_)
  cases q6 : decide (m.static = ⟨#[]⟩)
  · repeat (first | refine cg_seq ?_ | refine cg_region ?_ | refine rg_nil ?_ | refine eg_then ?_ | refine qsp ?_ | refine cg_cond_true rfl ?_ | refine cg_ret ?_ | refine eg_then_ret ?_)
    exact eg_return rfl rfl rfl
  have q6 := of_decide_eq_true q6
  clear m0 m1
  have hjc := join_ct (g := g) (m := m) hl hok hsm hms hmo hmok hmb.1 hmb.2 now hnow
  have hec := joinE_cases g m now
  have hlaw := round_begin (now := now) q5 q7 q6
  have hown := join_own (m := m) (now := now) (small_own hsm)
  obtain ⟨r, hr⟩ : ∃ r, joinG g m now = r := ⟨_, rfl⟩
  rw [hr] at hjc hec hlaw hown
  repeat (first | refine cg_seq ?_ | refine cg_region ?_ | refine eg_then ?_ | refine qsp ?_ | refine qsg ?_ | refine cg_cond_false rfl ?_ | refine cg_skip ?_)
  refine rv rfl rfl rfl (loc_call rfl rfl rfl rfl GrpV.mono hjc) ?_
  rintro k7 hle7 _ ⟨a7, c7, rfl, h7⟩
  have c3 := c3.le hle7
  have hl := hl.le hle7
  repeat (first | refine qsp ?_)
  refine rb rfl rfl rfl rfl (a_alloc rfl) ?_; intro b9 k8 hb8 hN8 hle8 hk8
  refine rw1 (vs := r.1.cs a7 c7) rfl rfl rfl rfl rfl rfl rfl hk8 rfl (.inl hN8) (by simp [Group.cs, Value.oneCell']) ?_
  intro k9 ht9 hk9
  have hle9 := ht9 k7 hle8 hb8
  have d9 := cells_at (vs := r.1.cs a7 c7) hk9 rfl
  clear hjc ht9 hk8 hle8 c4 hms hmo hm0 p1 p2 p3
  rcases hec with he | he | he
  rotate_left
  · subst he
    have s3 := (Group.parts d9).2.2.2
    repeat (first | refine cg_seq ?_ | refine cg_region ?_ | refine rg_nil ?_ | refine eg_then ?_ | refine qsp ?_ | refine qsn ?_ | refine qsl ?_ | refine qsf ?_ | refine cg_cond_true rfl ?_ | refine cg_ret ?_ | refine eg_then_ret ?_)
    exact eg_return rfl rfl rfl
  · subst he
    have s3 := (Group.parts d9).2.2.2
    repeat (first | refine cg_seq ?_ | refine cg_region ?_ | refine rg_nil ?_ | refine eg_then ?_ | refine qsp ?_ | refine qsn ?_ | refine qsl ?_ | refine qsf ?_ | refine cg_cond_true rfl ?_ | refine cg_ret ?_ | refine eg_then_ret ?_)
    exact eg_return rfl rfl rfl
  obtain ⟨x, mx, rfl, hgc, hR, hxs, hxl, htm, hl0, hmxj⟩ := hlaw he
  have hxow : OwnB 4398046511104 x.l := hown
  have hxc := hR.chk
  have hxok := hxc.ok
  have hxsm := smallG_of hxc hxow
  have h7 : Sl tMember k7 a7 c7 x.l := h7
  have hgen0 := hgc.gen0
  have hgen1 := hgc.gen1
  have hfewn := hgc.few
  have c3' := c3.le hle9
  have s1 := (Group.parts d9).2.1
  have s2 := (Group.parts d9).2.2.1
  have s3 := (Group.parts d9).2.2.2
  have p1 := (Group.parts c3').2.1
  have p3 := (Group.parts c3').2.2.2
  have z1 : (x.gen != g.gen + 1) = false := by rw [hR.gen]; simp
  have z2 : (x.state != 1) = false := by rw [hxs]; rfl
  have z3 : ((x.l.length : Int) != (g.l.length : Int) + 1) = false := by rw [hxl]; simp
  repeat (first | refine cg_seq ?_ | refine cg_region ?_ | refine rg_nil ?_ | refine eg_then ?_ | refine qsp ?_ | refine qsa ?_ | refine qsl ?_ | refine qsf ?_ | refine cg_cond_false rfl ?_ | refine cg_skip ?_)
  rw [z1]
  repeat (first | refine qsp ?_ | refine qsl ?_ | refine qsf ?_)
  rw [z2]
  repeat (first | refine rg_nil ?_ | refine eg_then ?_ | refine qsp ?_ | refine qsn ?_ | refine qsa ?_ | refine qsl ?_ | refine qsf ?_)
  rw [z3]
  repeat (first | refine cg_seq ?_ | refine cg_region ?_ | refine rg_nil ?_ | refine eg_then ?_ | refine qsp ?_ | refine cg_cond_false rfl ?_ | refine cg_skip ?_ | refine cg_block ?_)
  clear s1 s2 s3 p1 p3 z1 z2 z3
  refine cg_loop (fun (i : Nat) e k' => Le k9 k' ∧ i ≤ g.l.length ∧ e = [(2, .is (.int .i64 now)), (3, .is (.pointer (some ⟨b3, 0, none⟩))), (7, .is (.bool true)), (9, .is (.pointer (some ⟨b9, 0, none⟩))), (11, .is (.int .i64 (i : Int)))])
    (fun i => g.l.length - i) 0 ⟨Le.refl _, Nat.zero_le _, rfl⟩ ⟨rfl, rfl, rfl, rfl, rfl, trivial⟩ ?_
  rintro i e k1 ⟨hle1, hi, rfl⟩
  have p3 := (Group.parts (c3'.le hle1)).2.2.2
  repeat (first | refine cg_seq ?_ | refine cg_region ?_ | refine rg_nil ?_ | refine eg_then ?_ | refine qsp ?_ | refine qsn ?_ | refine qsl ?_ | refine qsf ?_)
  refine cg_cond rfl (fun h => ?_) (fun h => ?_)
  · have hlt : i < g.l.length := by simpa using h
    obtain ⟨hhas, huq⟩ := hR.at hlt
    obtain ⟨bx, ox, cx, ea, ⟨a0, c0, a1, c1, rfl, _, _⟩, hcx⟩ := (hl.le (hle9.trans hle1)).el i g.l[i] (List.getElem?_eq_getElem hlt)
    subst ea
    obtain ⟨w, hw⟩ : ∃ w, g.l[i] = w := ⟨_, rfl⟩
    rw [hw] at hcx hhas huq
    have m0 := (Member.parts hcx).1
    have c3i := c3'.le hle1
    have d9i := d9.le hle1
    have p1 := (Group.parts c3i).2.1
    have hx1 := h7.le (hle9.trans hle1)
    have hbn : (beatG x w.id g.gen now).2 = 232 := beat_again hxc g.gen htm hhas fun y hy he => by rw [huq y hy he, if_neg (by omega)]; rfl
    have hsz := syncE_again hxc g.gen htm hhas hxs
    have hfe := fence_gen hxc (gen := g.gen) hhas (by rw [hR.gen]; omega)
    have bl := hl.cap; have bm := hl.max; unfold maxLen at bm
    repeat (first | refine cg_seq ?_ | refine eg_then ?_ | refine cg_skip ?_ | refine cg_block ?_)
    refine cg_newsto 17 14 15 12 24 (noG.cs none 0).toArray (fun k vs => ∃ (a : Option Addr) (c : Nat), vs = (beatG x w.id g.gen now).1.cs a c ∧ Sl tMember k a c (beatG x w.id g.gen now).1.l) (by kernel_rfl) (by kernel_rfl) rfl (by kernel_rfl) rfl rfl ?_
    dsimp only [List.take]
    repeat (first | refine qcp ?_ | refine qci ?_ | refine qcl ?_ | refine qcg ?_ | refine qcf ?_)
    refine wc_v (φ := GrpV (beatG x w.id g.gen now)) rfl (loc_call rfl rfl rfl rfl GrpV.mono (beat_ct (g := x) hx1 hxok hxsm w.id g.gen now hnow)) rfl ?_
    refine wc_iv (φ := GrpV (beatG x w.id g.gen now)) rfl (loci_pure (t := 107) rfl (by kernel_rfl) rfl GrpV.mono fun v k1 _ h => ⟨v, rfl, h⟩) rfl ?_
    refine wc_iv (φ := GrpO (beatG x w.id g.gen now)) rfl (loci_pure (t := 96) rfl (by kernel_rfl) rfl GrpO.mono fun v k1 _ ⟨a, c, e1, h2⟩ => by subst e1; exact ⟨_, rfl, a, c, rfl, h2⟩) rfl ?_
    refine wc_iv (φ := fun _ v => v = .int .i64 (beatG x w.id g.gen now).2) rfl (loci_pure (t := 96) rfl (by kernel_rfl) rfl (fun _ _ _ _ h => h) fun v k1 _ ⟨a, c, e1, h2⟩ => by subst e1; exact ⟨_, rfl, rfl⟩) rfl ?_
    refine wc_e 0 rfl (eff_new3 rfl rfl rfl (a_alloc rfl) rfl) ?_
    refine wc_e 1 rfl (eff_sto3 (φ := GrpO (beatG x w.id g.gen now)) rfl rfl (Le.refl _) rfl rfl rfl (fun k u h => by
      obtain ⟨a, c, rfl, h2⟩ := h
      exact ⟨_, rfl, ⟨a, c, rfl, h2⟩, rfl, by simp [Group.cs, Value.oneCell']⟩) rfl) ?_
    refine wc_iv (φ := fun _ v => v = .int .i64 (beatG x w.id g.gen now).2) rfl (loci_pure (t := 109) rfl (by kernel_rfl) rfl (fun _ _ _ _ h => h) fun v k1 _ h => ⟨_, rfl, h⟩) rfl ?_
    refine wc_nil ?_
    intro k12a k12b vs b12 cells hle12a hΨ hle12b hb12 hN12 hda hvs
    obtain ⟨a12, c12, rfl, h12⟩ := hΨ
    have ee : vs 13 = .int .i64 (beatG x w.id g.gen now).2 := hvs 13 _ rfl
    clear hvs
    dsimp only [List.drop, set]
    simp only [nameE, nameP]
    rw [hda, ee]
    generalize vs 108 = w1
    generalize vs 109 = w2
    generalize vs 96 = w3
    generalize vs 107 = w4
    have hk12 := upd_same k12b b12 (.cells (((beatG x w.id g.gen now).1).cs a12 c12).toArray 24 (0, 0))
    have hle12 : Le k12a (upd k12b b12 (.cells (((beatG x w.id g.gen now).1).cs a12 c12).toArray 24 (0, 0))) := hle12b.upd (by
      cases hc : k12a b12 with
      | none => rfl
      | some ob => have := hle12b _ _ hc; rw [hb12] at this; cases this)
    generalize upd k12b b12 (.cells (((beatG x w.id g.gen now).1).cs a12 c12).toArray 24 (0, 0)) = k12 at hk12 hle12 ⊢
    have h12 := h12.le hle12
    have hle12 := hle12a.trans hle12
    clear hb12 hle12a hle12b hda ee
    rw [hbn]
    have m0 := m0.le hle12
    have c3i := c3i.le hle12
    have d9i := d9i.le hle12
    have p1 := (Group.parts c3i).2.1
    have p3 := (Group.parts c3i).2.2.2
    have hx1 := hx1.le hle12
    have hsc : CT Try.prog 21 #[.agg (x.cs a7 c7).toArray, .string w.id, .int .i64 g.gen, .int .i64 now, .slice none 0 0] k12 SynN := by
      refine ct_imp (sync_ct (g := x) hx1 hxok hxsm (tps := []) (sl_nilTp k12) (by decide) w.id g.gen now hnow) ?_
      rintro k' v ⟨y, own, e, a, c, a', c', rfl, h1, h2, hS⟩
      obtain ⟨rfl, rfl, rfl⟩ := hS.no (by rw [hsz]; decide)
      rw [hsz]
      exact ⟨a, c, a', c', rfl, h1⟩
    clear h12 hk12
    repeat (first | refine cg_seq ?_ | refine rg_nil ?_ | refine eg_then ?_)
    refine cg_newsto 19 15 16 14 24 (noG.cs none 0).toArray (fun k vs => ∃ (a : Option Addr) (c : Nat), vs = noG.cs a c ∧ Sl tMember k a c noG.l) (by kernel_rfl) (by kernel_rfl) rfl (by kernel_rfl) rfl rfl ?_
    dsimp only [List.take]
    repeat (first | refine qcp ?_ | refine qci ?_ | refine qcl ?_ | refine qcg ?_ | refine qcf ?_)
    refine wc_v (φ := SynN) rfl (loc_call rfl rfl rfl rfl SynN.mono hsc) rfl ?_
    refine wc_iv (φ := SynN) rfl (loci_pure (t := 121) rfl (by kernel_rfl) rfl SynN.mono fun v k1 _ h => ⟨v, rfl, h⟩) rfl ?_
    refine wc_iv (φ := GrpO (noG, 0)) rfl (loci_pure (t := 110) rfl (by kernel_rfl) rfl GrpO.mono fun v k1 _ ⟨a, c, a', c', e1, h2⟩ => by subst e1; exact ⟨_, rfl, a, c, rfl, h2⟩) rfl ?_
    refine wc_iv (φ := fun _ v => ∃ a' c', v = .slice a' 0 c') rfl (loci_pure (t := 110) rfl (by kernel_rfl) rfl (fun _ _ _ _ h => h) fun v k1 _ ⟨a, c, a', c', e1, h2⟩ => by subst e1; exact ⟨_, rfl, a', c', rfl⟩) rfl ?_
    refine wc_iv (φ := fun _ v => v = .int .i64 232) rfl (loci_pure (t := 110) rfl (by kernel_rfl) rfl (fun _ _ _ _ h => h) fun v k1 _ ⟨a, c, a', c', e1, h2⟩ => by subst e1; exact ⟨_, rfl, rfl⟩) rfl ?_
    refine wc_e 0 rfl (eff_new3 rfl rfl rfl (a_alloc rfl) rfl) ?_
    refine wc_e 1 rfl (eff_sto3 (φ := GrpO (noG, 0)) rfl rfl (Le.refl _) rfl rfl rfl (fun k u h => by
      obtain ⟨a, c, rfl, h2⟩ := h
      exact ⟨_, rfl, ⟨a, c, rfl, h2⟩, rfl, by simp [Group.cs, Value.oneCell']⟩) rfl) ?_
    refine wc_iv (φ := fun _ v => ∃ a' c', v = .slice a' 0 c') rfl (loci_pure (t := 123) rfl (by kernel_rfl) rfl (fun _ _ _ _ h => h) fun v k1 _ h => ⟨_, rfl, h⟩) rfl ?_
    refine wc_iv (φ := fun _ v => v = .int .i64 232) rfl (loci_pure (t := 124) rfl (by kernel_rfl) rfl (fun _ _ _ _ h => h) fun v k1 _ h => ⟨_, rfl, h⟩) rfl ?_
    refine wc_nil ?_
    intro k13a k13b vs b13 cells hle13a hΨ hle13b hb13 hN13 hda hvs
    obtain ⟨a13, c13, rfl, h13⟩ := hΨ
    have ee : vs 16 = .int .i64 232 := hvs 16 _ rfl
    clear hvs
    dsimp only [List.drop, set]
    simp only [nameE, nameP]
    rw [hda, ee]
    generalize vs 122 = w1
    generalize vs 123 = w2
    generalize vs 124 = w3
    generalize vs 121 = w4
    generalize vs 110 = w5
    generalize vs 15 = w6
    have hle13 : Le k13a (upd k13b b13 (.cells (noG.cs a13 c13).toArray 24 (0, 0))) := hle13b.upd (by
      cases hc : k13a b13 with
      | none => rfl
      | some ob => have := hle13b _ _ hc; rw [hb13] at this; cases this)
    generalize upd k13b b13 (.cells (noG.cs a13 c13).toArray 24 (0, 0)) = k13 at hle13 ⊢
    have hle13 := hle13a.trans hle13
    clear hb13 hle13a hle13b hda ee h13
    have m0 := m0.le hle13
    have c3i := c3i.le hle13
    have d9i := d9i.le hle13
    have p1 := (Group.parts c3i).2.1
    have p3 := (Group.parts c3i).2.2.2
    have hx1 := hx1.le hle13
    have f1 := fence_ct (g := x) hx1 hxok hxsm w.id g.gen
    rw [hfe] at f1
    repeat (first | refine cg_seq ?_ | refine rg_nil ?_ | refine eg_then ?_)
    refine cg_any (by kernel_rfl) rfl ?_
    repeat (first | refine qwp ?_ | refine qwi ?_ | refine qwl ?_ | refine qwg ?_ | refine qwf ?_)
    refine ws rfl (loc_call_is rfl rfl rfl rfl (f1)) ?_
    repeat (first | refine qwp ?_ | (refine wn rfl ?_; refine eg_then ?_))
    repeat (first | refine cg_region ?_ | refine rg_nil ?_ | refine eg_then ?_ | refine qsp ?_ | refine qsa ?_ | refine cg_cond_false rfl ?_ | refine cg_skip ?_ | refine eg_in_normal ?_)
    exact eg_again (i + 1) _ ⟨hle1.trans (hle12.trans hle13), hlt, rfl⟩ (by omega) ⟨rfl, rfl, rfl, rfl, rfl, trivial⟩
  have hl9 := hl.le hle9
  have hk91 := hle1 _ _ hk9
  have k7b9 : k7 b9 = none := hb8
  have c3k := c3
  clear d9 p3 c3' hxs hxl hgen0 hgen1
  repeat (first | refine cg_seq ?_ | refine cg_region ?_ | refine rg_nil ?_ | refine eg_then ?_ | refine qsp ?_ | refine cg_block ?_ | refine cg_exit ?_ | refine eg_then_exit ?_ | refine eg_in_exit ?_)
  refine cg_loop (fun (i : Nat) e k' => i ≤ g.l.length ∧ (∃ (x : Group) (a' : Option Addr) (c' : Nat) (hb : PH), Le k7 hb ∧ Le hb k' ∧ hb b9 = none ∧ k' b9 = some (.cells (x.cs a' c').toArray 24 (0, 0)) ∧ Sl tMember hb a' c' x.l ∧ RInv g mx now i x ∧ OwnB 4398046511104 x.l) ∧ e = [(2, .is (.int .i64 now)), (3, .is (.pointer (some ⟨b3, 0, none⟩))), (7, .is (.bool true)), (9, .is (.pointer (some ⟨b9, 0, none⟩))), (17, .is (.int .i64 (i : Int)))])
    (fun i => g.l.length - i) 0 ⟨Nat.zero_le _, ⟨x, a7, c7, k7, Le.refl _, hle9.trans hle1, k7b9, hk91, h7, hR, hxow⟩, rfl⟩ ⟨rfl, rfl, rfl, rfl, rfl, trivial⟩ ?_
  clear h7 hk91 hk9 hle9 hle1 hl9 hR hxow hxc hxok hxsm hi h
  rintro i e k1 ⟨hi, ⟨x, a3, cx3, hb, hkb, hbk, hb9, hkx, hg3, hR, hxow⟩, rfl⟩
  have hxc := hR.chk
  have hxok := hxc.ok
  have hxsm := smallG_of hxc hxow
  have p3 := (Group.parts (c3k.le (hkb.trans hbk))).2.2.2
  repeat (first | refine cg_seq ?_ | refine cg_region ?_ | refine rg_nil ?_ | refine eg_then ?_ | refine qsp ?_ | refine qsn ?_ | refine qsl ?_ | refine qsf ?_)
  refine cg_cond rfl (fun h => ?_) (fun h => ?_)
  · have hlt : i < g.l.length := by simpa using h
    obtain ⟨bx, ox, cx, ea, hrep, hcx⟩ := (hl.le hkb).el i g.l[i] (List.getElem?_eq_getElem hlt)
    subst ea
    have hcx := hcx.le hbk
    obtain ⟨y, hyj, hRy⟩ := round_step hgc hR hlt htm hmxj
    have hyow := join_own (g := x) (m := g.l[i]) (now := now) hxow
    rw [hyj] at hyow
    obtain ⟨w, hw⟩ : ∃ w, g.l[i] = w := ⟨_, rfl⟩
    rw [hw] at hrep hyj
    have hcl := tMember.len hrep
    obtain ⟨wa, wc, wo, wp, hwe, ⟨hws, hwo⟩, hwok⟩ := hrep
    have hsm0 := hsm.2 w (hw ▸ List.getElem_mem hlt)
    have hjc := join_ct (g := x) (m := w) hg3 hxok hxsm hws hwo hwok hsm0.1 hsm0.2 now hnow
    rw [hyj, ← hwe] at hjc
    have d3 := cells_at (vs := x.cs a3 cx3) hkx rfl
    have bl := hl.cap; have bm := hl.max; unfold maxLen at bm
    repeat (first | refine cg_seq ?_ | refine eg_then ?_ | refine cg_skip ?_ | refine cg_block ?_)
    refine cg_newsto 14 11 12 18 24 (noG.cs none 0).toArray (fun kk vs => Und hb k1 (fun k2 _ => ∃ (a : Option Addr) (c : Nat), vs = y.cs a c ∧ Sl tMember k2 a c y.l) kk undef) (by kernel_rfl) (by kernel_rfl) rfl (by kernel_rfl) rfl rfl ?_
    dsimp only [List.take]
    repeat (first | refine qcp ?_ | refine qci ?_ | refine qcl ?_ | refine qcg ?_ | refine qcf ?_)
    refine wc_s rfl (loc_det rfl (d_load_agg (vs := cx) rfl rfl rfl hcl hcx)) rfl ?_
    repeat (first | refine qcp ?_)
    refine wc_iv (φ := Und hb k1 (GrpV (y, 0))) rfl (loci_hct rfl rfl rfl rfl (Le.refl _) hbk hjc) rfl ?_
    refine wc_iv (φ := Und hb k1 (GrpV (y, 0))) rfl (loci_pure (t := 159) rfl (by kernel_rfl) rfl Und.mono fun v k1 _ h => ⟨v, rfl, h⟩) rfl ?_
    refine wc_iv (φ := Und hb k1 (GrpO (y, 0))) rfl (loci_pure (t := 151) rfl (by kernel_rfl) rfl Und.mono fun v k1 _ ⟨k2, u1, u2, u3, a, c, e1, h2⟩ => by subst e1; exact ⟨_, rfl, k2, u1, u2, u3, a, c, rfl, h2⟩) rfl ?_
    refine wc_iv (φ := fun _ v => v = .int .i64 0) rfl (loci_pure (t := 151) rfl (by kernel_rfl) rfl (fun _ _ _ _ h => h) fun v k1 _ ⟨k2, u1, u2, u3, a, c, e1, h2⟩ => by subst e1; exact ⟨_, rfl, rfl⟩) rfl ?_
    refine wc_e 0 rfl (eff_new3 rfl rfl rfl (a_alloc rfl) rfl) ?_
    refine wc_e 1 rfl (eff_sto3 (φ := Und hb k1 (GrpO (y, 0))) rfl rfl (Le.refl _) rfl rfl rfl (fun kk u h => by
      obtain ⟨k2, u1, u2, u3, a, c, rfl, h2⟩ := h
      exact ⟨_, rfl, ⟨k2, u1, u2, u3, a, c, rfl, h2⟩, rfl, by simp [Group.cs, Value.oneCell']⟩) rfl) ?_
    refine wc_iv (φ := fun _ v => v = .int .i64 0) rfl (loci_pure (t := 161) rfl (by kernel_rfl) rfl (fun _ _ _ _ h => h) fun v k1 _ h => ⟨_, rfl, h⟩) rfl ?_
    refine wc_nil ?_
    intro k0 k12a vs b18 cells hle0 hΨ hle12 hb18 hN18 hda hvs
    obtain ⟨k2', u1, u2, u3, a9, c9, rfl, h9⟩ := hΨ
    have ee : vs 19 = .int .i64 0 := hvs 19 _ rfl
    clear hvs
    dsimp only [List.drop, set]
    simp only [nameE, nameP]
    rw [hda, ee]
    generalize vs 161 = w1
    generalize vs 160 = w2
    generalize vs 151 = w3
    generalize vs 159 = w4
    have k29 : k2' b9 = none := (u2 _ _ hkx).trans hb9
    have hk18 := upd_same k12a b18 (.cells (y.cs a9 c9).toArray 24 (0, 0))
    have hle9 : Le k0 (upd k12a b18 (.cells (y.cs a9 c9).toArray 24 (0, 0))) := hle12.upd (by
      cases hc : k0 b18 with
      | none => rfl
      | some ob => have := hle12 _ _ hc; rw [hb18] at this; cases this)
    generalize upd k12a b18 (.cells (y.cs a9 c9).toArray 24 (0, 0)) = k12 at hk18 hle9 ⊢
    have hk12 := (hle0.trans hle9) _ _ hkx
    have hle2 : Le k2' k12 := u3.trans hle9
    have hkb2 : Le k7 k2' := hkb.trans u1
    clear hle12 hb18 hda ee u3 u2 hjc hcx hle9
    have d18 := cells_at (vs := y.cs a9 c9) hk18 rfl
    have d9 := cells_at (vs := x.cs a3 cx3) hk12 rfl
    have c3i := c3k.le (hkb2.trans hle2)
    have p3 := (Group.parts c3i).2.2.2
    have s1 := (Group.parts d18).2.1
    have s2 := (Group.parts d18).2.2.1
    have r1 := (Group.parts d9).2.1
    have y1 : (y.gen != x.gen) = false := by rw [hRy.gen, hR.gen]; simp
    have y2 : (y.state == 2) = ((i : Int) == (g.l.length : Int) - 1) := by
      rw [Bool.eq_iff_iff, beq_iff_eq, beq_iff_eq, hRy.st]
      omega
    repeat (first | refine cg_seq ?_ | refine cg_region ?_ | refine rg_nil ?_ | refine eg_then ?_ | refine qsp ?_ | refine qsl ?_ | refine qsf ?_)
    rw [y1]
    repeat (first | refine qsp ?_ | refine qsn ?_ | refine qss ?_ | refine qsl ?_ | refine qsf ?_)
    have y4 : ∀ b : Bool, (!(b == b)) = false := fun b => by cases b <;> rfl
    rw [y2]
    refine rs rfl rfl (loc_det rfl (d_neb rfl rfl rfl)) ?_
    rw [y4]
    repeat (first | refine cg_region ?_ | refine rg_nil ?_ | refine eg_then ?_ | refine qsp ?_ | refine qsg ?_ | refine cg_cond_false rfl ?_ | refine cg_skip ?_)
    refine rw1 (vs := y.cs a9 c9) rfl rfl rfl rfl rfl rfl rfl hk12 rfl (.inl hN8) (by simp [Group.cs, Value.oneCell']) ?_
    intro k13 ht13 hk13
    repeat (first | refine cg_region ?_ | refine rg_nil ?_ | refine eg_then ?_ | refine qsp ?_ | refine qsa ?_ | refine eg_in_normal ?_)
    exact eg_again (i + 1) _ ⟨hlt, ⟨y, a9, c9, k2', hkb2, ht13 _ hle2 k29, k29, hk13, h9, hRy, hyow⟩, rfl⟩ (by omega) ⟨rfl, rfl, rfl, rfl, rfl, trivial⟩
  have hie : i = g.l.length := by simp at h; omega
  subst hie
  have d9 := cells_at (vs := x.cs a3 cx3) hkx rfl
  have hx1 := hg3.le hbk
  have hl1 := hl.le (hkb.trans hbk)
  have c3i := c3k.le (hkb.trans hbk)
  clear p3 hkx hb9 hkb hbk hg3 c3k
  repeat (first | refine cg_seq ?_ | refine cg_region ?_ | refine rg_nil ?_ | refine eg_then ?_ | refine qsp ?_ | refine cg_block ?_ | refine cg_exit ?_ | refine eg_then_exit ?_ | refine eg_in_exit ?_)
  refine cg_loop (fun (i : Nat) e k' => Le k1 k' ∧ i ≤ g.l.length ∧ e = [(3, .is (.pointer (some ⟨b3, 0, none⟩))), (7, .is (.bool true)), (9, .is (.pointer (some ⟨b9, 0, none⟩))), (20, .is (.int .i64 (i : Int)))])
    (fun i => g.l.length - i) 0 ⟨Le.refl _, Nat.zero_le _, rfl⟩ ⟨rfl, rfl, rfl, rfl, trivial⟩ ?_
  rintro i e k2 ⟨hle2, hi2, rfl⟩
  have c3j := c3i.le hle2
  have d9j := d9.le hle2
  have hl2 := hl1.le hle2
  have hx2 := hx1.le hle2
  have p3 := (Group.parts c3j).2.2.2
  repeat (first | refine cg_seq ?_ | refine cg_region ?_ | refine rg_nil ?_ | refine eg_then ?_ | refine qsp ?_ | refine qsn ?_ | refine qsl ?_ | refine qsf ?_)
  refine cg_cond rfl (fun h => ?_) (fun h => ?_)
  rotate_left
  · repeat (first | refine cg_seq ?_ | refine cg_region ?_ | refine rg_nil ?_ | refine eg_then ?_ | refine qsp ?_ | refine cg_ret ?_ | refine cg_exit ?_ | refine eg_then_exit ?_ | refine eg_in_exit ?_)
    exact eg_return rfl rfl rfl
  have hlt : i < g.l.length := by simpa using h
  obtain ⟨hhas, huq⟩ := hR.at hlt
  obtain ⟨bx, ox, cx, ea, ⟨a0, c0, a1, c1, rfl, ⟨_, hwo⟩, _⟩, hcx⟩ := hl2.el i g.l[i] (List.getElem?_eq_getElem hlt)
  subst ea
  obtain ⟨w, hw⟩ : ∃ w, g.l[i] = w := ⟨_, rfl⟩
  rw [hw] at hcx hhas huq hwo
  rw [if_pos (by omega)] at huq
  have m0 := (Member.parts hcx).1
  have m3 := (Member.parts hcx).2.2.2.1
  obtain ⟨si, hsi, hsl, hsid⟩ := hasId_idx hhas
  have hff := refFind_ct hx2 w.id
  rw [hsi] at hff
  obtain ⟨by', oy, cy, eb, ⟨e0, f0, e1, f1, rfl, ⟨_, hyo⟩, _⟩, hcy⟩ := hx2.el si _ (List.getElem?_eq_getElem hsl)
  subst eb
  have hyw := huq _ (List.getElem_mem hsl) hsid
  have n3 := (Member.parts hcy).2.2.2.1
  have htp := tps_ct hyo hwo
  rw [show decide (x.l[si].own = w.own) = true by rw [hyw]; simp [rejoin]] at htp
  have f1 := fence_ct (g := x) hx2 hxok hxsm w.id x.gen
  rw [fence_yes hxc hhas rfl] at f1
  have r1 := (Group.parts d9j).2.1
  have bl2 := hl2.cap; have bm2 := hl2.max; unfold maxLen at bm2
  have bl3 := hx2.cap; have bm3 := hx2.max; unfold maxLen at bm3
  repeat (first | refine cg_seq ?_ | refine eg_then ?_ | refine cg_skip ?_ | refine cg_block ?_)
  refine cg_any (by kernel_rfl) rfl ?_
  repeat (first | refine qwp ?_ | refine qwi ?_ | refine qwl ?_ | refine qwg ?_ | refine qwf ?_)
  refine ws rfl (loc_call_is rfl rfl rfl rfl (hff)) ?_
  repeat (first | refine qwp ?_ | (refine wn rfl ?_; refine eg_then ?_))
  repeat (first | refine cg_seq ?_)
  have r3 := (Group.parts d9j).2.2.2
  have p3 := (Group.parts c3j).2.2.2
  have y3 : decide ((si : Int) < 0) = false := by simp
  refine cg_any (by kernel_rfl) rfl ?_
  repeat (first | refine qwp ?_ | refine qwi ?_ | refine qwl ?_ | refine qwf ?_)
  rw [y3]
  skip
  refine ws rfl (loc_call_is rfl rfl rfl rfl (htp)) ?_
  repeat (first | refine qwp ?_ | refine qwi ?_ | refine qwl ?_ | refine qwg ?_ | refine qwf ?_)
  refine ws rfl (loc_call_is rfl rfl rfl rfl (f1)) ?_
  repeat (first | refine qwp ?_ | (refine wn rfl ?_; refine eg_then ?_))
  repeat (first | refine cg_region ?_ | refine rg_nil ?_ | refine eg_then ?_ | refine qsp ?_ | refine qsa ?_ | refine cg_cond_false rfl ?_ | refine cg_skip ?_ | refine eg_in_normal ?_)
  exact eg_again (i + 1) _ ⟨hle2, hlt, rfl⟩ (by omega) ⟨rfl, rfl, rfl, rfl, trivial⟩
end Go.Wm

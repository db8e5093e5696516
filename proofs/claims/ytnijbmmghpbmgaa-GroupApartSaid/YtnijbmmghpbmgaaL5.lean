/-
  The walk of the law that nothing is ever two members'. Conditions: that what is handed in reads as data.
-/
import Derived.Test.YtnijbmmghpbmgaaL4
import Derived.Test.YtnijbmmghpbmgaaJ4
set_option linter.all false
namespace Go.Wm
open Go.RowKit Go.Proofs
instance : RdW Try.prog 49 (tSl tGOp) (fun xs => (xs.length * Try.prog.bytesOf 53 ≤ reachBytes ∧ ∀ y0 ∈ xs, y0.small)) := rdw_slice Try.underlying49 (by kernel_rfl) (by decide)
theorem xg0_chk : chkG xg0 = 0 := by decide +kernel
attribute [local irreducible] RG CG EG WA Loc Det Alc CT Exit.then Exit.inBlock Code.wp bodyPost
set_option maxHeartbeats 8000000 in
theorem groupApart_walk {k : PH} {a : Option Addr} {c : Nat} {l : List GOp} (hl : Sl tGOp k a c l) {p : Prop} (hp : p) {ta : Option Addr} {tc : Nat} {tps : List Tp} (ht : Sl tTp k ta tc tps) {p2 : Prop} (hp2 : p2) : CT Try.prog 7 #[.slice a l.length c, .slice ta tps.length tc] k (fun _ v => v = .bool true) := by
  refine ct_of_body (l := [_, _]) Try.func7 rfl Try.ntmps7 (by simp) (fun _ _ _ _ h => h) fun F hF0 hFm => ?_
  have b1 := hl.cap; have b2 := hl.max; have b3 := ht.cap; have b4 := ht.max; unfold maxLen at b2 b4
  repeat (first | refine cg_seq ?_ | refine cg_region ?_ | refine rg_nil ?_ | refine eg_then ?_ | refine qsp ?_)
  refine rs rfl rfl (loc_call_is rfl rfl rfl rfl (live_ct)) ?_
  repeat (first | refine cg_seq ?_ | refine cg_region ?_ | refine rg_nil ?_ | refine eg_then ?_ | refine qsp ?_ | refine cg_cond_false rfl ?_ | refine cg_skip ?_)
  refine rv rfl rfl rfl (loc_call rfl rfl rfl rfl (fun _ _ _ _ h => h) (fewOps_ct hl)) ?_
  rintro k1 hle1 _ ⟨fo, rfl, hfo⟩
  cases fo
  · repeat (first | refine cg_seq ?_ | refine cg_region ?_ | refine rg_nil ?_ | refine eg_then ?_ | refine qsp ?_ | refine qso ?_ | refine cg_cond_true rfl ?_ | refine cg_ret ?_ | refine eg_then_ret ?_)
    exact eg_return rfl rfl rfl
  obtain ⟨hlen, hfew⟩ := hfo rfl
  repeat (first | refine rg_nil ?_ | refine eg_then ?_ | refine qsp ?_ | refine qsn ?_)
  cases q1 : decide ((30 : Int) < (tps.length : Int))
  case true =>
    repeat (first | refine cg_seq ?_ | refine cg_region ?_ | refine rg_nil ?_ | refine eg_then ?_ | refine qsp ?_ | refine cg_cond_true rfl ?_ | refine cg_ret ?_ | refine eg_then_ret ?_)
    exact eg_return rfl rfl rfl
  have htl : tps.length ≤ 30 := by have := of_decide_eq_false q1; omega
  repeat (first | refine cg_seq ?_ | refine cg_region ?_ | refine eg_then ?_ | refine cg_cond_false rfl ?_ | refine cg_skip ?_)
  refine rv rfl rfl rfl (loc_call rfl rfl rfl rfl GrpV.mono (new_ct tG (by decide))) ?_
  rintro k2 hle2 _ ⟨a2, c2, rfl, h2⟩
  rw [ex_new] at h2 ⊢
  repeat (first | refine qsp ?_)
  refine rb rfl rfl rfl rfl (a_alloc rfl) ?_; intro b6 k6 hb6 hN6 hle6 hk6
  refine rw1 (vs := xg0.cs a2 c2) rfl rfl rfl rfl rfl rfl rfl hk6 rfl (.inl hN6) (by simp [Group.cs, Value.oneCell']) ?_
  intro k7 ht7 hk7
  have hle7 := ht7 k2 hle6 hb6
  have hkk : Le k k2 := hle1.trans hle2
  repeat (first | refine cg_seq ?_ | refine cg_region ?_ | refine rg_nil ?_ | refine eg_then ?_ | refine qsp ?_ | refine cg_cond_false rfl ?_ | refine cg_skip ?_ | refine cg_block ?_)
  refine cg_loop (fun (i : Nat) e k' => i ≤ l.length ∧ (∃ (g : Group) (a' : Option Addr) (c' : Nat) (hb : PH), Le k hb ∧ Le hb k' ∧ hb b6 = none ∧ k' b6 = some (.cells (g.cs a' c').toArray 24 (0, 0)) ∧ Sl tMember hb a' c' g.l ∧ ChkG g ∧ OwnB 4398046511104 g.l) ∧ e = [(0, .is (.slice a l.length c)), (1, .is (.slice ta tps.length tc)), (5, .is (.bool true)), (6, .is (.pointer (some ⟨b6, 0, none⟩))), (8, .is (.int .i64 (i : Int)))])
    (fun i => l.length - i) 0 ⟨Nat.zero_le _, ⟨xg0, a2, c2, k2, hkk, hle7, hb6, hk7, h2, chk_all xg0_chk, fun y hy => by cases hy⟩, rfl⟩ ⟨rfl, rfl, rfl, rfl, rfl, trivial⟩ ?_
  clear hk7 h2 hkk hle7 ht7 hk6 hle6 hb6
  rintro i e k3 ⟨hi, ⟨g, a3, c3, hb, hkb, hbk, hb6, hk3, hg3, hgc, hgo⟩, rfl⟩
  repeat (first | refine cg_seq ?_ | refine cg_region ?_ | refine rg_nil ?_ | refine eg_then ?_ | refine qsp ?_ | refine qsn ?_)
  refine cg_cond rfl (fun h => ?_) (fun h => ?_)
  rotate_left
  · repeat (first | refine cg_seq ?_ | refine cg_region ?_ | refine rg_nil ?_ | refine eg_then ?_ | refine qsp ?_ | refine cg_ret ?_ | refine cg_exit ?_ | refine eg_then_exit ?_ | refine eg_in_exit ?_)
    exact eg_return rfl rfl rfl
  have hlt : i < l.length := by simpa using h
  have hok := hgc.ok
  have hsm := smallG_of hgc hgo
  obtain ⟨bx, ox, cx, ea, hrep, hcx⟩ := (hl.le (hkb.trans hbk)).el i l[i] (List.getElem?_eq_getElem hlt)
  obtain ⟨bx2, ox2, cx2, ea2, hrep2, hcx2⟩ := (hl.le hkb).el i l[i] (List.getElem?_eq_getElem hlt)
  subst ea
  cases ea2
  have hcx2 := hcx2.le hbk
  have hcl := tGOp.len hrep2
  have hfm := hfew _ (List.getElem_mem hlt)
  obtain ⟨o, ho⟩ : ∃ o, l[i] = o := ⟨_, rfl⟩
  rw [ho] at hrep2 hfm
  clear hrep hcx
  have hdc := done_ct (g := g) hg3 hok hsm ⟨hgc.gen0, hgc.gen1⟩ hrep2 hfm (ht.le hkb) htl
  have d3 := cells_at (vs := g.cs a3 c3) hk3 rfl
  obtain ⟨q, hq⟩ : ∃ q, doneF g o tps = q := ⟨_, rfl⟩
  rw [hq] at hdc
  repeat (first | refine cg_seq ?_ | refine eg_then ?_ | refine cg_skip ?_ | refine cg_block ?_)
  refine cg_newsto 13 10 11 9 24 (noG.cs none 0).toArray (fun kk vs => Und hb k3 (fun k2 _ => DoneOk 4398046511104 g q ∧ ∃ (a : Option Addr) (c : Nat), vs = q.1.cs a c ∧ Sl tMember k2 a c q.1.l) kk undef) (by kernel_rfl) (by kernel_rfl) rfl (by kernel_rfl) rfl rfl ?_
  dsimp only [List.take]
  repeat (first | refine qcp ?_ | refine qci ?_ | refine qcg ?_)
  refine wc_s rfl (loc_det rfl (d_load_agg (vs := cx2) rfl rfl rfl hcl hcx2)) rfl ?_
  repeat (first | refine qcp ?_)
  refine wc_iv (φ := Und hb k3 (DoneV 4398046511104 g q)) rfl (loci_hct rfl rfl rfl rfl (Le.refl _) hbk hdc) rfl ?_
  refine wc_iv (φ := Und hb k3 (DoneV 4398046511104 g q)) rfl (loci_pure (t := 42) rfl (by kernel_rfl) rfl Und.mono fun v k1 _ h => ⟨v, rfl, h⟩) rfl ?_
  refine wc_iv (φ := Und hb k3 (fun k2 v => DoneOk 4398046511104 g q ∧ GrpO q k2 v)) rfl (loci_pure (t := 35) rfl (by kernel_rfl) rfl Und.mono fun v k1 _ ⟨k2, u1, u2, u3, hd, a, c, e1, h2⟩ => by subst e1; exact ⟨_, rfl, k2, u1, u2, u3, hd, a, c, rfl, h2⟩) rfl ?_
  refine wc_iv (φ := fun _ v => v = .int .i64 q.2) rfl (loci_pure (t := 35) rfl (by kernel_rfl) rfl (fun _ _ _ _ h => h) fun v k1 _ ⟨k2, u1, u2, u3, hd, a, c, e1, h2⟩ => by subst e1; exact ⟨_, rfl, rfl⟩) rfl ?_
  refine wc_e 0 rfl (eff_new3 rfl rfl rfl (a_alloc rfl) rfl) ?_
  refine wc_e 1 rfl (eff_sto3 (φ := Und hb k3 (fun k2 v => DoneOk 4398046511104 g q ∧ GrpO q k2 v)) rfl rfl (Le.refl _) rfl rfl rfl (fun kk u h => by
    obtain ⟨k2, u1, u2, u3, hd, a, c, rfl, h2⟩ := h
    exact ⟨_, rfl, ⟨k2, u1, u2, u3, hd, a, c, rfl, h2⟩, rfl, by simp [Group.cs, Value.oneCell']⟩) rfl) ?_
  refine wc_iv (φ := fun _ v => v = .int .i64 q.2) rfl (loci_pure (t := 44) rfl (by kernel_rfl) rfl (fun _ _ _ _ h => h) fun v k1 _ h => ⟨_, rfl, h⟩) rfl ?_
  refine wc_nil ?_
  intro k0 k12a vs b9 cells hle0 hΨ hle12 hb9 hN9 hda hvs
  obtain ⟨k2', u1, u2, u3, hd, a9, c9, rfl, h9⟩ := hΨ
  have ee : vs 10 = .int .i64 q.2 := hvs 10 _ rfl
  clear hvs
  dsimp only [List.drop, set]
  simp only [nameE, nameP]
  rw [hda, ee]
  generalize vs 44 = w1
  generalize vs 43 = w2
  generalize vs 35 = w3
  generalize vs 42 = w4
  have k26 : k2' b6 = none := (u2 _ _ hk3).trans hb6
  have n69 : b6 ≠ b9 := fun e => by have := hle12 _ _ (hle0 _ _ hk3); rw [e, hb9] at this; cases this
  have hk9 := upd_same k12a b9 (.cells (q.1.cs a9 c9).toArray 24 (0, 0))
  have hle9 : Le k0 (upd k12a b9 (.cells (q.1.cs a9 c9).toArray 24 (0, 0))) := hle12.upd (by
    cases hc : k0 b9 with
    | none => rfl
    | some ob => have := hle12 _ _ hc; rw [hb9] at this; cases this)
  generalize upd k12a b9 (.cells (q.1.cs a9 c9).toArray 24 (0, 0)) = k12 at hk9 hle9 ⊢
  have hk12 := (hle0.trans hle9) _ _ hk3
  have hle2 : Le k2' k12 := u3.trans hle9
  have hb12 : Le hb k12 := hbk.trans (hle0.trans hle9)
  have hkb2 : Le k k2' := hkb.trans u1
  clear hle12 hb9 hda ee u3 u2 hdc hcx2
  have d9 := cells_at (vs := q.1.cs a9 c9) hk9 rfl
  have d6 := cells_at (vs := g.cs a3 c3) hk12 rfl
  repeat (first | refine cg_seq ?_ | refine cg_region ?_ | refine rg_nil ?_ | refine eg_then ?_ | refine qsp ?_)
  refine cg_cond rfl (fun hz => ?_) (fun hz => ?_)
  · have hz : q.2 ≠ 0 := by simpa using hz
    have hno := hd.no hz
    have s3 := (Group.parts d9).2.2.2
    have s1 := (Group.parts d9).2.1
    have y1 : decide ((q.1.l.length : Int) > 0) = false := by rw [hno]; rfl
    have y2 : (q.1.gen != 0) = false := by rw [hno]; rfl
    repeat (first | refine cg_seq ?_ | refine cg_region ?_ | refine qsp ?_ | refine qsn ?_ | refine qsl ?_ | refine qsf ?_)
    rw [y1]
    repeat (first | refine rg_nil ?_ | refine eg_then ?_ | refine qsp ?_ | refine qsl ?_ | refine qsf ?_)
    rw [y2]
    repeat (first | refine cg_region ?_ | refine rg_nil ?_ | refine eg_then ?_ | refine qsp ?_ | refine qsa ?_ | refine cg_cond_false rfl ?_ | refine cg_skip ?_ | refine cg_exit ?_ | refine eg_then_exit ?_ | refine eg_in_exit ?_)
    exact eg_again (i + 1) _ ⟨hlt, ⟨g, a3, c3, hb, hkb, hb12, hb6, hk12, hg3, hgc, hgo⟩, rfl⟩ (by omega) ⟨rfl, rfl, rfl, rfl, rfl, trivial⟩
  have hz : q.2 = 0 := by simpa using hz
  have hxc := hd.chk hz
  have hx12 := h9.le hle2
  have f1 := check_ct (g := q.1) hx12 hxc.ok
  rw [chk_of hxc] at f1
  have f2 := alone_ct hx12 hxc.own
  have glo := hd.lo hz
  have ghi := hd.hi hz
  have gst := hd.stay hz
  have gg0 := hgc.gen0
  have gg1 := hgc.gen1
  have r1 := (Group.parts d6).2.1
  have r2 := (Group.parts d6).2.2.1
  have s1 := (Group.parts d9).2.1
  have s2 := (Group.parts d9).2.2.1
  have s3 := (Group.parts d9).2.2.2
  have y1 : decide (q.1.gen < g.gen) = false := by rw [decide_eq_false_iff_not]; omega
  have y2 : decide (q.1.gen > g.gen + 1) = false := by rw [decide_eq_false_iff_not]; omega
  repeat (first | refine cg_seq ?_ | refine cg_region ?_ | refine eg_then ?_ | refine qsg ?_ | refine cg_skip ?_)
  refine rs rfl rfl (loc_call_is rfl rfl rfl rfl (f1)) ?_
  repeat (first | refine qsp ?_ | refine qsg ?_)
  refine rs rfl rfl (loc_call_is rfl rfl rfl rfl (f2)) ?_
  repeat (first | refine qsp ?_ | refine qsl ?_ | refine qsf ?_)
  rw [y1]
  repeat (first | refine rg_nil ?_ | refine eg_then ?_ | refine qsp ?_ | refine qsa ?_ | refine qsl ?_ | refine qsf ?_)
  rw [y2]
  repeat (first | refine cg_seq ?_ | refine cg_region ?_ | refine eg_then ?_ | refine qsp ?_ | refine qsl ?_ | refine qsf ?_ | refine cg_cond_false rfl ?_ | refine cg_skip ?_)
  cases v1 : (q.1.gen == g.gen)
  · skip
    repeat (first | refine cg_region ?_ | refine rg_nil ?_ | refine eg_then ?_ | refine qsp ?_ | refine qsg ?_ | refine qso ?_ | refine cg_cond_false rfl ?_ | refine cg_skip ?_)
    refine rw1 (vs := q.1.cs a9 c9) rfl rfl rfl rfl rfl rfl rfl hk12 rfl (.inl hN6) (by simp [Group.cs, Value.oneCell']) ?_
    intro k13 ht13 hk13
    repeat (first | refine cg_region ?_ | refine rg_nil ?_ | refine eg_then ?_ | refine qsp ?_ | refine qsa ?_ | refine eg_in_normal ?_)
    exact eg_again (i + 1) _ ⟨hlt, ⟨q.1, a9, c9, k2', hkb2, ht13 _ hle2 k26, k26, hk13, h9, hxc, hd.own⟩, rfl⟩ (by omega) ⟨rfl, rfl, rfl, rfl, rfl, trivial⟩
  repeat (first | refine qsp ?_ | refine qsl ?_ | refine qsf ?_)
  cases v2 : (g.state == 2)
  · skip
    repeat (first | refine cg_region ?_ | refine rg_nil ?_ | refine eg_then ?_ | refine qsp ?_ | refine qsg ?_ | refine qso ?_ | refine cg_cond_false rfl ?_ | refine cg_skip ?_)
    refine rw1 (vs := q.1.cs a9 c9) rfl rfl rfl rfl rfl rfl rfl hk12 rfl (.inl hN6) (by simp [Group.cs, Value.oneCell']) ?_
    intro k13 ht13 hk13
    repeat (first | refine cg_region ?_ | refine rg_nil ?_ | refine eg_then ?_ | refine qsp ?_ | refine qsa ?_ | refine eg_in_normal ?_)
    exact eg_again (i + 1) _ ⟨hlt, ⟨q.1, a9, c9, k2', hkb2, ht13 _ hle2 k26, k26, hk13, h9, hxc, hd.own⟩, rfl⟩ (by omega) ⟨rfl, rfl, rfl, rfl, rfl, trivial⟩
  repeat (first | refine qsp ?_ | refine qsl ?_ | refine qsf ?_)
  cases v3 : (q.1.state != 2)
  · skip
    repeat (first | refine cg_region ?_ | refine rg_nil ?_ | refine eg_then ?_ | refine qsp ?_ | refine qsg ?_ | refine qso ?_ | refine cg_cond_false rfl ?_ | refine cg_skip ?_)
    refine rw1 (vs := q.1.cs a9 c9) rfl rfl rfl rfl rfl rfl rfl hk12 rfl (.inl hN6) (by simp [Group.cs, Value.oneCell']) ?_
    intro k13 ht13 hk13
    repeat (first | refine cg_region ?_ | refine rg_nil ?_ | refine eg_then ?_ | refine qsp ?_ | refine qsa ?_ | refine eg_in_normal ?_)
    exact eg_again (i + 1) _ ⟨hlt, ⟨q.1, a9, c9, k2', hkb2, ht13 _ hle2 k26, k26, hk13, h9, hxc, hd.own⟩, rfl⟩ (by omega) ⟨rfl, rfl, rfl, rfl, rfl, trivial⟩
  have hl0 := gst (by simpa using v1) (by simpa using v2) (by simpa using v3)
  repeat (first | refine rg_nil ?_ | refine eg_then ?_ | refine qsp ?_ | refine qsn ?_ | refine qsl ?_ | refine qsf ?_)
  rw [show decide ((q.1.l.length : Int) > 0) = false by rw [hl0]; rfl]
  repeat (first | refine cg_region ?_ | refine eg_then ?_ | refine qsg ?_ | refine cg_cond_false rfl ?_ | refine cg_skip ?_)
  refine rw1 (vs := q.1.cs a9 c9) rfl rfl rfl rfl rfl rfl rfl hk12 rfl (.inl hN6) (by simp [Group.cs, Value.oneCell']) ?_
  intro k13 ht13 hk13
  repeat (first | refine cg_region ?_ | refine rg_nil ?_ | refine eg_then ?_ | refine qsp ?_ | refine qsa ?_ | refine eg_in_normal ?_)
  exact eg_again (i + 1) _ ⟨hlt, ⟨q.1, a9, c9, k2', hkb2, ht13 _ hle2 k26, k26, hk13, h9, hxc, hd.own⟩, rfl⟩ (by omega) ⟨rfl, rfl, rfl, rfl, rfl, trivial⟩
end Go.Wm

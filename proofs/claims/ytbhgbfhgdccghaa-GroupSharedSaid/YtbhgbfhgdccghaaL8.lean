/-
  The law on sharing: who wants, all asked. Conditions: that what is handed in reads as data.
-/
import Derived.Test.YtbhgbfhgdccghaaL4
import Derived.Test.YtbhgbfhgdccghaaR11
import Derived.Test.YtbhgbfhgdccghaaK16
set_option linter.all false
namespace Go.Wm
open Go.RowKit Go.Proofs
/-- What Sync tells, of a tuple that is known. -/
def SynQ (P : Group → List Tp → Int → Prop) (q : Group × List Tp × Int) (k : PH) (v : Value) : Prop := P q.1 q.2.1 q.2.2 ∧ ∃ a c a' c', v = .tuple #[.agg (q.1.cs a c).toArray, .slice a' q.2.1.length c', .int .i64 q.2.2] ∧ Sl tMember k a c q.1.l ∧ Sl tTp k a' c' q.2.1
/-- What all asked have come to. -/
def AskV (g : Group) (tps : List Tp) (k : PH) (v : Value) : Prop := ∃ x ch a c, v = .tuple #[.agg (x.cs a c).toArray, .bool ch, .bool true] ∧ Sl tMember k a c x.l ∧ AskI g x tps g.l.length ch ∧ OwnB 4398046511104 x.l
theorem AskV.mono {g : Group} {tps : List Tp} : ∀ k k' v, Le k k' → AskV g tps k v → AskV g tps k' v := fun k k' v hle ⟨x, ch, a, c, h1, h2, h3⟩ => ⟨x, ch, a, c, h1, h2.le hle, h3⟩
theorem timeOk_I64 {n : Int} (h : timeOk n = true) : I64 n := by
  unfold timeOk at h
  simp only [Bool.and_eq_true, decide_eq_true_eq] at h
  unfold I64; omega
attribute [local irreducible] RG CG EG WA Loc Det Alc CT Exit.then Exit.inBlock Code.wp bodyPost
set_option maxHeartbeats 1000000 in
theorem wanted_ct {k : PH} {g : Group} {a : Option Addr} {c : Nat} (hl : Sl tMember k a c g.l) (t : Tp) : CT Try.prog 12 #[.agg (g.cs a c).toArray, .agg t.vs.toArray] k (fun _ v => v = .bool (anyW g.l t)) := by
  refine ct_of_body (l := [_, _]) Try.func12 rfl Try.ntmps12 (by simp) (fun _ _ _ _ h => h) fun F hF0 hFm => ?_
  have b1 := hl.cap; have b2 := hl.max; unfold maxLen at b2
  repeat (first | refine cg_seq ?_ | refine cg_region ?_)
  refine rb rfl rfl rfl rfl (a_box rfl rfl) ?_; intro b2 k2 hb2 hN2 hle2 hk2
  skip
  refine rb rfl rfl rfl rfl (a_box rfl rfl) ?_; intro b3 k3 hb3 hN3 hle3 hk3
  obtain ⟨_, _, _, p3⟩ := Group.parts ((cells_at (vs := g.cs a c) hk2 rfl).le hle3)
  obtain ⟨t0, _, _⟩ := Tp.parts (cells_at (vs := t.vs) hk3 rfl)
  have hl := hl.le (hle2.trans hle3)
  repeat (first | refine cg_seq ?_ | refine cg_region ?_ | refine rg_nil ?_ | refine eg_then ?_ | refine qsp ?_ | refine cg_block ?_)
  refine cg_loop (fun (i : Nat) e k' => k' = k3 ∧ i ≤ g.l.length ∧ (∀ x ∈ g.l.take i, decide (t.topic ∈ x.subs) = false) ∧ e = [(2, .is (.pointer (some ⟨b2, 0, none⟩))), (3, .is (.pointer (some ⟨b3, 0, none⟩))), (5, .is (.int .i64 (i : Int)))])
    (fun i => g.l.length - i) 0 ⟨rfl, Nat.zero_le _, by simp, rfl⟩ ⟨rfl, rfl, rfl, trivial⟩ ?_
  rintro i e k1 ⟨rfl, hi, hno, rfl⟩
  repeat (first | refine cg_seq ?_ | refine cg_region ?_ | refine rg_nil ?_ | refine eg_then ?_ | refine qsp ?_ | refine qsn ?_ | refine qsl ?_ | refine qsf ?_)
  refine cg_cond rfl (fun h => ?_) (fun h => ?_)
  rotate_left
  · have hie : i = g.l.length := by simp at h; omega
    rw [hie, List.take_length] at hno
    repeat (first | refine cg_seq ?_ | refine cg_region ?_ | refine rg_nil ?_ | refine eg_then ?_ | refine qsp ?_ | refine cg_ret ?_ | refine cg_exit ?_ | refine eg_then_exit ?_ | refine eg_in_exit ?_)
    refine eg_return rfl rfl ?_
    rw [show anyW g.l t = false from List.any_eq_false.2 fun x hx => by rw [hno x hx]; decide]
  have hlt : i < g.l.length := by simpa using h
  obtain ⟨bx, ox, cx, ea, ⟨a0, c0, a1, c1, rfl, ⟨hs, _⟩, _⟩, hcx⟩ := hl.el i g.l[i] (List.getElem?_eq_getElem hlt)
  subst ea
  have hmem := List.getElem_mem hlt
  have htk := List.take_succ_eq_append_getElem hlt
  obtain ⟨m, hm⟩ : ∃ m, g.l[i] = m := ⟨_, rfl⟩
  rw [hm] at hcx hs hmem htk
  obtain ⟨_, _, q2, _, _, _⟩ := Member.parts hcx
  have b3' := hs.cap; have b4' := hs.max; unfold maxLen at b4'
  repeat (first | refine cg_seq ?_ | refine cg_region ?_ | refine rg_nil ?_ | refine eg_then ?_ | refine qsp ?_ | refine cg_skip ?_ | refine cg_block ?_)
  refine cg_loop (fun (j : Nat) e k' => k' = k1 ∧ j ≤ m.subs.length ∧ (∀ s ∈ m.subs.take j, s ≠ t.topic) ∧ e = [(2, .is (.pointer (some ⟨b2, 0, none⟩))), (3, .is (.pointer (some ⟨b3, 0, none⟩))), (5, .is (.int .i64 (i : Int))), (6, .is (.int .i64 (j : Int)))])
    (fun j => m.subs.length - j) 0 ⟨rfl, Nat.zero_le _, by simp, rfl⟩ ⟨rfl, rfl, rfl, rfl, trivial⟩ ?_
  rintro j e k5 ⟨rfl, hj, hns, rfl⟩
  repeat (first | refine cg_seq ?_ | refine cg_region ?_ | refine rg_nil ?_ | refine eg_then ?_ | refine qsp ?_ | refine qsn ?_ | refine qsi ?_ | refine qsl ?_ | refine qsf ?_)
  refine cg_cond rfl (fun h2 => ?_) (fun h2 => ?_)
  rotate_left
  · have hje : j = m.subs.length := by simp at h2; omega
    rw [hje, List.take_length] at hns
    repeat (first | refine cg_region ?_ | refine rg_nil ?_ | refine eg_then ?_ | refine qsp ?_ | refine qsa ?_ | refine eg_in_normal ?_ | refine cg_exit ?_ | refine eg_then_exit ?_ | refine eg_in_exit ?_)
    refine eg_again (i + 1) _ ⟨rfl, hlt, fun x hx => ?_, rfl⟩ (by omega) ⟨rfl, rfl, rfl, trivial⟩
    rw [htk] at hx
    rcases List.mem_append.1 hx with hx | hx
    · exact hno x hx
    · simp at hx; rw [hx, decide_eq_false_iff_not]; exact fun hh => hns _ hh rfl
  have hlt2 : j < m.subs.length := by simpa using h2
  obtain ⟨by', oy, cy, eb, ⟨rfl, _⟩, hcy⟩ := hs.el j m.subs[j] (List.getElem?_eq_getElem hlt2)
  rw [eb] at q2
  repeat (first | refine cg_seq ?_ | refine eg_then ?_ | refine cg_skip ?_ | refine cg_block ?_)
  refine cg_any (by kernel_rfl) rfl ?_
  repeat (first | refine qwp ?_ | refine qwi ?_ | refine qwl ?_ | refine qwf ?_ | (refine wn rfl ?_; refine eg_then ?_))
  cases z : decide (m.subs[j] = t.topic)
  · repeat (first | refine cg_region ?_ | refine rg_nil ?_ | refine eg_then ?_ | refine qsp ?_ | refine qsa ?_ | refine cg_cond_false rfl ?_ | refine cg_skip ?_ | refine eg_in_normal ?_)
    refine eg_again (j + 1) _ ⟨rfl, hlt2, fun x hx => ?_, rfl⟩ (by omega) ⟨rfl, rfl, rfl, rfl, trivial⟩
    rw [List.take_succ_eq_append_getElem hlt2] at hx
    rcases List.mem_append.1 hx with hx | hx
    · exact hns x hx
    · simp at hx; rw [hx]; exact of_decide_eq_false z
  · repeat (first | refine cg_seq ?_ | refine cg_region ?_ | refine rg_nil ?_ | refine eg_then ?_ | refine qsp ?_ | refine cg_cond_true rfl ?_ | refine cg_ret ?_ | refine eg_then_ret ?_ | refine eg_in_ret ?_)
    refine eg_return rfl rfl ?_
    have hin : t.topic ∈ m.subs := by rw [← of_decide_eq_true z]; exact List.getElem_mem hlt2
    rw [show anyW g.l t = true from List.any_eq_true.2 ⟨m, hmem, decide_eq_true hin⟩]
set_option maxHeartbeats 4000000 in
theorem asked_ct {k : PH} {g : Group} {a : Option Addr} {c : Nat} (hl : Sl tMember k a c g.l) (hc : ChkG g) (hst : g.state = 2) (hob : OwnB 4398046511104 g.l) {now : Int} (htm : timeOk now = true) {tps : List Tp} {ta : Option Addr} {tc : Nat} (ht : Sl tTp k ta tc tps) (hr : RightP ordTp tpOk tps) (htl : tps.length ≤ 30) :
    CT Try.prog 9 #[.agg (g.cs a c).toArray, .int .i64 now, .slice ta tps.length tc] k (AskV g tps) := by
  refine ct_of_body (l := [_, _, _]) Try.func9 rfl Try.ntmps9 (by simp) AskV.mono fun F hF0 hFm => ?_
  have hnow := timeOk_I64 htm
  repeat (first | refine cg_seq ?_ | refine cg_region ?_)
  refine rb rfl rfl rfl rfl (a_box rfl rfl) ?_; intro b3 k1 hb1 hN1 hle1 hk1
  refine rb rfl rfl rfl rfl (a_alloc rfl) ?_; intro b6 k2 hb2 hN2 hle2 hk2
  have k0b6 : k b6 = none := by
    cases hcc : k b6 with
    | none => rfl
    | some ob => have := hle1 _ _ hcc; rw [hb2] at this; cases this
  have hk12 := hle2 _ _ hk1
  have n36 : b3 ≠ b6 := fun e => by rw [← e, hk1] at hb2; cases hb2
  repeat (first | refine cg_seq ?_ | refine cg_region ?_ | refine rg_nil ?_ | refine eg_then ?_ | refine qsp ?_ | refine cg_block ?_)
  refine cg_loop (fun (i : Nat) e k' => ∃ (x : Group) (ch : Bool) (a' : Option Addr) (c' : Nat) (hb : PH), Le k hb ∧ Le hb k' ∧ hb b3 = none ∧ hb b6 = none ∧ k' b3 = some (.cells (x.cs a' c').toArray 24 (0, 0)) ∧ k' b6 = some (.cells (noG.cs none 0).toArray 24 (0, 0)) ∧ Sl tMember hb a' c' x.l ∧ AskI g x tps i ch ∧ OwnB 4398046511104 x.l ∧ i ≤ g.l.length ∧ e = [(1, .is (.int .i64 now)), (2, .is (.slice ta tps.length tc)), (3, .is (.pointer (some ⟨b3, 0, none⟩))), (6, .is (.pointer (some ⟨b6, 0, none⟩))), (9, .is (.bool ch)), (10, .is (.int .i64 (i : Int)))])
    (fun i => g.l.length - i) 0 ⟨g, false, a, c, k, Le.refl _, hle1.trans hle2, hb1, k0b6, hk12, hk2, hl, AskI.start hc hst tps, hob, Nat.zero_le _, rfl⟩ ⟨rfl, rfl, rfl, rfl, rfl, rfl, trivial⟩ ?_
  clear hk12 hk2 hk1 hle2 hle1 hb1 hb2
  rintro i e k3 ⟨x, ch, a3, c3, hb, hkb, hbk, hb3, hb6, hk3, hk6, hx, hA, hxo, hi, rfl⟩
  have hxc := hA.chk
  have hlen := hA.len
  have b1 := hx.cap; have b2 := hx.max; unfold maxLen at b2
  have p3 := (Group.parts (cells_at (vs := x.cs a3 c3) hk3 rfl)).2.2.2
  repeat (first | refine cg_seq ?_ | refine cg_region ?_ | refine rg_nil ?_ | refine eg_then ?_ | refine qsp ?_ | refine qsn ?_ | refine qsl ?_ | refine qsf ?_)
  refine cg_cond rfl (fun h => ?_) (fun h => ?_)
  rotate_left
  · have hie : i = g.l.length := by simp at h; omega
    rw [hie] at hA
    have d3 := cells_at (vs := x.cs a3 c3) hk3 rfl
    clear p3
    repeat (first | refine cg_seq ?_ | refine cg_region ?_ | refine eg_then ?_ | refine qsp ?_ | refine qsg ?_ | refine cg_exit ?_ | refine eg_then_exit ?_ | refine eg_in_exit ?_)
    refine rw1 (vs := x.cs a3 c3) rfl rfl rfl rfl rfl rfl rfl hk6 rfl (.inl hN2) (by simp [Group.cs, Value.oneCell']) ?_
    intro k4 ht4 hk4
    repeat (first | refine rg_nil ?_ | refine eg_then ?_ | refine qsp ?_ | refine cg_ret ?_)
    exact eg_returnC3 rfl rfl rfl rfl rfl (cells_at (vs := x.cs a3 c3) hk4 rfl) rfl ⟨x, ch, a3, c3, rfl, hx.le (ht4 hb hbk hb6), hA, hxo⟩
  have hlt : i < x.l.length := by simpa using h
  have hwi := List.getElem?_eq_getElem hlt
  obtain ⟨bx, ox, cx, ea, ⟨a0, c0, a1, c1, rfl, ⟨_, hwo⟩, _⟩, hcx⟩ := hx.el i x.l[i] hwi
  subst ea
  obtain ⟨w, hw⟩ : ∃ w, x.l[i] = w := ⟨_, rfl⟩
  rw [hw] at hcx hwo hwi
  have hcx3 := hcx.le hbk
  obtain ⟨q, hq⟩ : ∃ q, syncF x w.id x.gen now tps = q := ⟨_, rfl⟩
  have hsc : CT Try.prog 16 #[.agg (x.cs (some ⟨bx, ox, none⟩) c3).toArray, .string w.id, .int .i64 x.gen, .int .i64 now, .slice ta tps.length tc] hb (SynQ (SyncR x w.id x.gen now tps) q) := by
    refine ct_imp (sync_ct (g := x) hx hxc.ok (smallG_of hxc hxo) (ht.le hkb) (by omega) w.id x.gen now hnow) ?_
    rintro k' v ⟨y, own, e, a, c, a', c', rfl, h1, h2, hS⟩
    have he := syncF_eq hS
    rw [hq] at he
    subst he
    exact ⟨hS, a, c, a', c', rfl, h1, h2⟩
  have m0 := (Member.parts hcx3).1
  have p1 := (Group.parts (cells_at (vs := x.cs (some ⟨bx, ox, none⟩) c3) hk3 rfl)).2.1
  have d3 := cells_at (vs := x.cs (some ⟨bx, ox, none⟩) c3) hk3 rfl
  repeat (first | refine cg_seq ?_ | refine eg_then ?_ | refine cg_skip ?_ | refine cg_block ?_)
  refine cg_newsto 20 16 17 11 24 (noG.cs none 0).toArray (fun kk vs => Und hb k3 (fun k2 _ => SyncR x w.id x.gen now tps q.1 q.2.1 q.2.2 ∧ ∃ (a : Option Addr) (c : Nat), vs = q.1.cs a c ∧ Sl tMember k2 a c q.1.l) kk undef) (by kernel_rfl) (by kernel_rfl) rfl (by kernel_rfl) rfl rfl ?_
  dsimp only [List.take]
  repeat (first | refine qcp ?_ | refine qci ?_ | refine qcl ?_ | refine qcg ?_ | refine qcf ?_)
  refine wc_iv (φ := Und hb k3 (SynQ (SyncR x w.id x.gen now tps) q)) rfl (loci_hct rfl rfl rfl rfl (Le.refl _) hbk hsc) rfl ?_
  refine wc_iv (φ := Und hb k3 (SynQ (SyncR x w.id x.gen now tps) q)) rfl (loci_pure (t := 35) rfl (by kernel_rfl) rfl Und.mono fun v k1 _ h => ⟨v, rfl, h⟩) rfl ?_
  refine wc_iv (φ := Und hb k3 (fun k2 v => SyncR x w.id x.gen now tps q.1 q.2.1 q.2.2 ∧ ∃ a c, v = .agg (q.1.cs a c).toArray ∧ Sl tMember k2 a c q.1.l)) rfl (loci_pure (t := 23) rfl (by kernel_rfl) rfl Und.mono fun v k1 _ ⟨k2, u1, u2, u3, hd, a, c, a', c', e1, h2, h3⟩ => by subst e1; exact ⟨_, rfl, k2, u1, u2, u3, hd, a, c, rfl, h2⟩) rfl ?_
  refine wc_iv (φ := Und hb k3 (fun k2 v => ∃ a' c', v = .slice a' q.2.1.length c' ∧ Sl tTp k2 a' c' q.2.1)) rfl (loci_pure (t := 23) rfl (by kernel_rfl) rfl Und.mono fun v k1 _ ⟨k2, u1, u2, u3, hd, a, c, a', c', e1, h2, h3⟩ => by subst e1; exact ⟨_, rfl, k2, u1, u2, u3, a', c', rfl, h3⟩) rfl ?_
  refine wc_iv (φ := fun _ v => v = .int .i64 q.2.2) rfl (loci_pure (t := 23) rfl (by kernel_rfl) rfl (fun _ _ _ _ h => h) fun v k1 _ ⟨k2, u1, u2, u3, hd, a, c, a', c', e1, h2, h3⟩ => by subst e1; exact ⟨_, rfl, rfl⟩) rfl ?_
  refine wc_e 0 rfl (eff_new3 rfl rfl rfl (a_alloc rfl) rfl) ?_
  refine wc_e 1 rfl (eff_sto3 (φ := Und hb k3 (fun k2 v => SyncR x w.id x.gen now tps q.1 q.2.1 q.2.2 ∧ ∃ a c, v = .agg (q.1.cs a c).toArray ∧ Sl tMember k2 a c q.1.l)) rfl rfl (Le.refl _) rfl rfl rfl (fun kk u h => by
    obtain ⟨k2, u1, u2, u3, hd, a, c, rfl, h2⟩ := h
    exact ⟨_, rfl, ⟨k2, u1, u2, u3, hd, a, c, rfl, h2⟩, rfl, by simp [Group.cs, Value.oneCell']⟩) rfl) ?_
  refine wc_iv (φ := Und hb k3 (fun k2 v => ∃ a' c', v = .slice a' q.2.1.length c' ∧ Sl tTp k2 a' c' q.2.1)) rfl (loci_pure (t := 37) rfl (by kernel_rfl) rfl Und.mono fun v k1 _ h => ⟨v, rfl, h⟩) rfl ?_
  refine wc_iv (φ := fun _ v => v = .int .i64 q.2.2) rfl (loci_pure (t := 38) rfl (by kernel_rfl) rfl (fun _ _ _ _ h => h) fun v k1 _ h => ⟨_, rfl, h⟩) rfl ?_
  refine wc_nil ?_
  intro k0 k12a vs b11 cells hle0 hΨ hle12 hb11 hN11 hda hvs
  obtain ⟨k2', u1, u2, u3, hS, a9, c9, rfl, h9⟩ := hΨ
  have ee : vs 13 = .int .i64 q.2.2 := hvs 13 _ rfl
  obtain ⟨k2o, v1, v2, v3, ao, co, eo, hso⟩ := hvs 12 _ rfl
  clear hvs
  dsimp only [List.drop, set]
  simp only [nameE, nameP]
  rw [hda, ee, eo]
  generalize vs 35 = w1
  generalize vs 23 = w2
  generalize vs 36 = w3
  generalize vs 37 = w4
  generalize vs 38 = w5
  obtain ⟨he0, hxl, hxi, hA'⟩ := hA.next hwi htm hr hS
  have hob' := sync_own hS hxo (show tps.length ≤ 4398046511104 by omega)
  generalize hq1 : q.1 = y at *
  generalize hq2 : q.2.1 = own at *
  rw [he0]
  have kz3 : k2' b3 = none := (u2 _ _ hk3).trans hb3
  have kz6 : k2' b6 = none := (u2 _ _ hk6).trans hb6
  have hk11 := upd_same k12a b11 (.cells (y.cs a9 c9).toArray 24 (0, 0))
  have k0b11 : k0 b11 = none := by
    cases hcc : k0 b11 with
    | none => rfl
    | some ob => have := hle12 _ _ hcc; rw [hb11] at this; cases this
  have hle13 : Le k0 (upd k12a b11 (.cells (y.cs a9 c9).toArray 24 (0, 0))) := hle12.upd k0b11
  have hso : Sl tTp (upd k12a b11 (.cells (y.cs a9 c9).toArray 24 (0, 0))) ao co own := by
    exact hso.le (v3.trans ((Le.refl _).upd hb11))
  generalize upd k12a b11 (.cells (y.cs a9 c9).toArray 24 (0, 0)) = k13 at hk11 hle13 hso ⊢
  have hz13 : Le k2' k13 := u3.trans hle13
  have hk313 := hle0.trans hle13
  have hk3' := hk313 _ _ hk3
  have hk6' := hk313 _ _ hk6
  have hb13 := hbk.trans hk313
  clear hda ee eo u2 u3 v2 v3 hle12 hb11 hle0 hsc m0 p1 p3 d3
  have s3 := (Group.parts (cells_at (vs := x.cs (some ⟨bx, ox, none⟩) c3) hk3' rfl)).2.2.2
  have y3 := (Group.parts (cells_at (vs := y.cs a9 c9) hk11 rfl)).2.2.2
  have o3 := (Member.parts (hcx.le hb13)).2.2.2.1
  have hcmp : ((y.l.length : Int) != (x.l.length : Int)) = false := by rw [hxl]; simp
  have t1 := tps_ct (hwo.le hb13) hso
  have hy13 := h9.le hz13
  obtain ⟨by', oy, cy, eb, ⟨d0, f0, d1, f1, rfl, ⟨_, hyo⟩, _⟩, hcy⟩ := hy13.el i _ hxi
  subst eb
  have n3 := (Member.parts hcy).2.2.2.1
  have t2 := tps_ct hyo hso
  rw [show decide ((setOwn own now w).own = own) = true by simp [setOwn]] at t2
  have bl := hy13.cap; have bm := hy13.max; unfold maxLen at bm
  have hlt2 : i < y.l.length := by omega
  repeat (first | refine cg_seq ?_ | refine cg_region ?_ | refine rg_nil ?_ | refine eg_then ?_ | refine qsp ?_ | refine qsn ?_ | refine qsl ?_ | refine qsf ?_)
  rw [hcmp]
  repeat (first | refine cg_seq ?_ | refine cg_region ?_ | refine eg_then ?_ | refine qsp ?_ | refine qsi ?_ | refine qsl ?_ | refine qsf ?_ | refine cg_cond_false rfl ?_ | refine cg_skip ?_)
  refine rs rfl rfl (loc_call_is rfl rfl rfl rfl (t1)) ?_
  repeat (first | refine cg_seq ?_ | refine cg_region ?_ | refine rg_nil ?_ | refine eg_then ?_ | refine qsp ?_ | refine qsi ?_ | refine qsl ?_ | refine qsf ?_)
  refine rs rfl rfl (loc_call_is rfl rfl rfl rfl (t2)) ?_
  repeat (first | refine cg_seq ?_ | refine cg_region ?_ | refine rg_nil ?_ | refine eg_then ?_ | refine qsp ?_ | refine cg_cond_false rfl ?_ | refine cg_skip ?_)
  have d11 := cells_at (vs := y.cs (some ⟨by', oy, none⟩) c9) hk11 rfl
  clear y3 s3 n3 o3
  cases ch
  · skip
    repeat (first | refine cg_region ?_ | refine rg_nil ?_ | refine eg_then ?_ | refine qsp ?_ | refine qsg ?_)
    refine rw1 (vs := y.cs (some ⟨by', oy, none⟩) c9) rfl rfl rfl rfl rfl rfl rfl hk3' rfl (.inl hN1) (by simp [Group.cs, Value.oneCell']) ?_
    intro k14 ht14 hk14
    repeat (first | refine cg_region ?_ | refine rg_nil ?_ | refine eg_then ?_ | refine qsp ?_ | refine qsa ?_ | refine eg_in_normal ?_)
    exact eg_again (i + 1) _ ⟨y, !decide (w.own = own), _, _, k2', hkb.trans u1, ht14 k2' hz13 kz3, kz3, kz6, hk14, turn1_get ht14 (Ne.symm n36) hk6', h9, hA', hob', by omega, rfl⟩ (by omega) ⟨rfl, rfl, rfl, rfl, rfl, rfl, trivial⟩
  · skip
    repeat (first | refine cg_region ?_ | refine rg_nil ?_ | refine eg_then ?_ | refine qsp ?_ | refine qsg ?_ | refine qso ?_)
    refine rw1 (vs := y.cs (some ⟨by', oy, none⟩) c9) rfl rfl rfl rfl rfl rfl rfl hk3' rfl (.inl hN1) (by simp [Group.cs, Value.oneCell']) ?_
    intro k14 ht14 hk14
    repeat (first | refine cg_region ?_ | refine rg_nil ?_ | refine eg_then ?_ | refine qsp ?_ | refine qsa ?_ | refine eg_in_normal ?_)
    exact eg_again (i + 1) _ ⟨y, true, _, _, k2', hkb.trans u1, ht14 k2' hz13 kz3, kz3, kz6, hk14, turn1_get ht14 (Ne.symm n36) hk6', h9, hA', hob', by omega, rfl⟩ (by omega) ⟨rfl, rfl, rfl, rfl, rfl, rfl, trivial⟩
end Go.Wm

/-
  The walk of the law on who stays by its Static. Conditions: that what is handed in reads as data.
-/
import Derived.Test.YtnijbmmghpbmgaaL1
import Derived.Test.YtnijbmmghpbmgaaR1
import Derived.Test.YtnijbmmghpbmgaaK11
set_option linter.all false
namespace Go.Wm
open Go.RowKit Go.Proofs
theorem bytes28 : Try.prog.bytesOf 28 = 96 := by kernel_rfl
theorem bytes9 : Try.prog.bytesOf 9 = 16 := by kernel_rfl
theorem bytes63 : Try.prog.bytesOf 63 = 32 := by kernel_rfl
theorem reach47 : reachBytes ≤ 140737488355328 := by decide
theorem Member.smallS {m : Member} (h : m.small) : m.subs.length * 16 ≤ 140737488355328 ∧ m.own.length * 32 ≤ 140737488355328 := by
  obtain ⟨_, _, ⟨h1, _⟩, ⟨h2, _⟩, _⟩ := h
  rw [bytes9] at h1
  rw [bytes63] at h2
  exact ⟨Nat.le_trans h1 reach47, Nat.le_trans h2 reach47⟩
theorem Group.smallG {g : Group} (h : g.small) : SmallG g := by
  obtain ⟨_, _, _, h1, h2⟩ := h
  rw [bytes28] at h1
  exact ⟨Nat.le_trans h1 reach47, fun m hm => Member.smallS (h2 m hm)⟩
theorem small_own {g : Group} (h : SmallG g) : OwnB 4398046511104 g.l := fun y hy => by
  have := (h.2 y hy).2
  omega
theorem smallG_of {x : Group} (h : ChkG x) (ho : OwnB 4398046511104 x.l) : SmallG x := ⟨by have := h.few; omega, fun m hm => by
  have h1 := ho m hm
  have h2 := (right_all.1 h.right).1 m hm
  unfold memOk at h2
  simp only [Bool.and_eq_true, decide_eq_true_eq] at h2
  have h3 := h2.2.2.2.1
  exact ⟨by omega, by omega⟩⟩
attribute [local irreducible] RG CG EG WA Loc Det Alc CT Exit.then Exit.inBlock Code.wp bodyPost
set_option maxHeartbeats 8000000 in
theorem groupStays_walk {k : PH} {g : Group} {cg : List Value} (hg : tGroup.rep k cg g) (hsml : g.small) {n : Int} (hn : I64 n) {id : ByteArray} (hid : id.size ≤ maxLen) {now : Int} (hnow : I64 now) : CT Try.prog 5 #[.agg cg.toArray, .int .i64 n, .string id, .int .i64 now] k (fun _ v => v = .bool true) := by
  obtain ⟨a, c, rfl, hl, hok⟩ := hg
  have hsm := Group.smallG hsml
  unfold maxLen at hid
  refine ct_of_body (l := [_, _, _, _]) Try.func5 rfl Try.ntmps5 (by simp) (fun _ _ _ _ h => h) fun F hF0 hFm => ?_
  have b1 := hl.cap; have b2 := hl.max; unfold maxLen at b2
  repeat (first | refine cg_seq ?_ | refine cg_region ?_)
  refine rb rfl rfl rfl rfl (a_box rfl rfl) ?_; intro b4 k4 hb4 hN4 hle4 hk4
  have hl := hl.le hle4
  have c4 := cells_at (vs := g.cs a c) hk4 rfl
  repeat (first | refine cg_seq ?_ | refine cg_region ?_ | refine rg_nil ?_ | refine eg_then ?_ | refine qsp ?_)
  refine rs rfl rfl (loc_call_is rfl rfl rfl rfl (live_ct)) ?_
  repeat (first | refine cg_seq ?_ | refine cg_region ?_ | refine rg_nil ?_ | refine eg_then ?_ | refine qsp ?_ | refine qsg ?_ | refine cg_cond_false rfl ?_ | refine cg_skip ?_)
  refine rs rfl rfl (loc_call_is rfl rfl rfl rfl (few_ct hl)) ?_
  cases q1 : fewG g
  · repeat (first | refine cg_seq ?_ | refine cg_region ?_ | refine rg_nil ?_ | refine eg_then ?_ | refine qsp ?_ | refine qso ?_ | refine cg_cond_true rfl ?_ | refine cg_ret ?_ | refine eg_then_ret ?_)
    exact eg_return rfl rfl rfl
  repeat (first | refine qsp ?_)
  refine rs rfl rfl (loc_det rfl (d_len_str rfl rfl)) ?_
  repeat (first | refine qsp ?_)
  cases q2 : decide ((100 : Int) < (id.size : Int))
  case true =>
    repeat (first | refine cg_seq ?_ | refine cg_region ?_ | refine rg_nil ?_ | refine eg_then ?_ | refine qsp ?_ | refine qso ?_ | refine cg_cond_true rfl ?_ | refine cg_ret ?_ | refine eg_then_ret ?_)
    exact eg_return rfl rfl rfl
  repeat (first | refine qsp ?_)
  cases q3 : decide (n < 0)
  case true =>
    repeat (first | refine cg_seq ?_ | refine cg_region ?_ | refine rg_nil ?_ | refine eg_then ?_ | refine qsp ?_ | refine qso ?_ | refine cg_cond_true rfl ?_ | refine cg_ret ?_ | refine eg_then_ret ?_)
    exact eg_return rfl rfl rfl
  have p1 := (Group.parts c4).2.1
  have p2 := (Group.parts c4).2.2.1
  have p3 := (Group.parts c4).2.2.2
  repeat (first | refine qsp ?_ | refine qsn ?_ | refine qsl ?_ | refine qsf ?_)
  cases q4 : decide ((g.l.length : Int) ≤ n)
  case true =>
    repeat (first | refine cg_seq ?_ | refine cg_region ?_ | refine rg_nil ?_ | refine eg_then ?_ | refine qsp ?_ | refine qso ?_ | refine cg_cond_true rfl ?_ | refine cg_ret ?_ | refine eg_then_ret ?_)
    exact eg_return rfl rfl rfl
  have q3 := of_decide_eq_false q3
  have q4 := of_decide_eq_false q4
  obtain ⟨i, rfl⟩ : ∃ i : Nat, n = (i : Int) := ⟨n.toNat, by omega⟩
  have hlt : i < g.l.length := by omega
  repeat (first | refine qsp ?_ | refine qsl ?_ | refine qsf ?_)
  cases q5 : (g.state != 2)
  case true =>
    repeat (first | refine cg_seq ?_ | refine cg_region ?_ | refine rg_nil ?_ | refine eg_then ?_ | refine qsp ?_ | refine qso ?_ | refine cg_cond_true rfl ?_ | refine cg_ret ?_ | refine eg_then_ret ?_)
    exact eg_return rfl rfl rfl
  have q5 : g.state = 2 := by simpa using q5
  have hw := List.getElem?_eq_getElem hlt
  obtain ⟨bx, ox, cx, ea, ⟨a0, c0, a1, c1, rfl, ⟨hws, hwo⟩, hwok⟩, hcx⟩ := hl.el i g.l[i] hw
  subst ea
  obtain ⟨was, hwas⟩ : ∃ was, g.l[i] = was := ⟨_, rfl⟩
  rw [hwas] at hw hws hwo hwok hcx
  have m0 := (Member.parts hcx).1
  have m1 := (Member.parts hcx).2.1
  have m2 := (Member.parts hcx).2.2.1
  have m3 := (Member.parts hcx).2.2.2.1
  repeat (first | refine qsp ?_ | refine qsi ?_ | refine qsl ?_ | refine qsf ?_)
  cases q6 : decide (was.static = ⟨#[]⟩)
  case true =>
    repeat (first | refine cg_seq ?_ | refine cg_region ?_ | refine rg_nil ?_ | refine eg_then ?_ | refine qsp ?_ | refine qso ?_ | refine cg_cond_true rfl ?_ | refine cg_ret ?_ | refine eg_then_ret ?_)
    exact eg_return rfl rfl rfl
  have q6 := of_decide_eq_false q6
  repeat (first | refine qsp ?_ | refine qsg ?_)
  refine rs rfl rfl (loc_call_is rfl rfl rfl rfl (refFind_ct hl id)) ?_
  repeat (first | refine rg_nil ?_ | refine eg_then ?_ | refine qsp ?_)
  rw [idx_has]
  cases q7 : hasId id g.l
  case true =>
    repeat (first | refine cg_seq ?_ | refine cg_region ?_ | refine rg_nil ?_ | refine eg_then ?_ | refine qsp ?_ | refine cg_cond_true rfl ?_ | refine cg_ret ?_ | refine eg_then_ret ?_)
    exact eg_return rfl rfl rfl
  repeat (first | refine cg_seq ?_ | refine eg_then ?_ | refine cg_cond_false rfl ?_ | refine cg_skip ?_)
  refine cg_fresh 15 [10] (by kernel_rfl) (by kernel_rfl) rfl rfl rfl ?_
  dsimp only [List.take]
  repeat (first | refine qfp ?_ | refine qfi ?_ | refine qfl ?_ | refine qff ?_)
  refine fs_s rfl (loc_det rfl (d_lit (cells := (⟨id, was.static, was.subs, [], false, 0⟩ : Member).cs a0 c0 none 0) rfl rfl rfl)) rfl ?_
  skip
  refine fs_newN rfl rfl (a_alloc rfl) (fun _ => rfl) ?_
  refine fs_nil ?_
  intro k5 vs hle5 hvs _ _
  obtain ⟨b10, e10, hk10, hn10, hN10⟩ := hvs 10 _ rfl
  clear hvs
  dsimp only [List.drop]
  simp only [nameE, nameP]
  rw [e10]
  clear e10
  refine rw1 (vs := (⟨id, was.static, was.subs, [], false, 0⟩ : Member).cs a0 c0 none 0) rfl rfl rfl rfl rfl rfl rfl hk10 rfl (.inl hN10) (by simp [Member.cs, Value.oneCell']) ?_
  intro k6 ht6 hk6
  have hle6 : Le k4 k6 := ht6 k4 hle5 hn10
  have cm6 := cells_at (vs := (⟨id, was.static, was.subs, [], false, 0⟩ : Member).cs a0 c0 none 0) hk6 rfl
  have c4 := c4.le hle6
  have hl := hl.le hle6
  have hws := hws.le hle6
  have hwo := hwo.le hle6
  have hsm0 := hsm.2 was (List.mem_of_getElem? hw)
  have hjc := join_ct (g := g) (m := ⟨id, was.static, was.subs, [], false, 0⟩) hl hok hsm hws (sl_nilTp _) ⟨hid, hwok.2.1, trivial, trivial, trivial, noOk⟩ hsm0.1 (by show ([] : List Tp).length * 32 ≤ _; simp) now hnow
  have hlaw := stays_law (now := now) q5 hw q6 q7
  have hec := joinE_cases g ⟨id, was.static, was.subs, [], false, 0⟩ now
  clear p1 p2 p3 m0 m1 m2 m3 hcx ht6 hk6 hk10 hle5
  repeat (first | refine cg_seq ?_ | refine cg_region ?_ | refine rg_nil ?_ | refine eg_then ?_ | refine qsp ?_ | refine qsg ?_)
  refine rv rfl rfl rfl (loc_call rfl rfl rfl rfl GrpV.mono hjc) ?_
  rintro k7 hle7 _ ⟨a7, c7, rfl, h7⟩
  have hrow7 := join_own (g := g) (m := ⟨id, was.static, was.subs, [], false, 0⟩) (now := now) (small_own hsm)
  generalize joinG g ⟨id, was.static, was.subs, [], false, 0⟩ now = r at h7 hlaw hec hrow7 ⊢
  have c4 := c4.le hle7
  have hl := hl.le hle7
  have hwo := hwo.le hle7
  repeat (first | refine qsp ?_)
  refine rb rfl rfl rfl rfl (a_alloc rfl) ?_; intro b8 k8 hb8 hN8 hle8 hk8
  refine rw1 (vs := r.1.cs a7 c7) rfl rfl rfl rfl rfl rfl rfl hk8 rfl (.inl hN8) (by simp [Group.cs, Value.oneCell']) ?_
  intro k9 ht9 hk9
  have hle9 := ht9 k7 hle8 hb8
  have h9 := h7.le hle9
  have c4 := c4.le hle9
  have hl := hl.le hle9
  have hwo := hwo.le hle9
  have d9 := cells_at (vs := r.1.cs a7 c7) hk9 rfl
  clear cm6 hws hjc h7 ht9 hk9 hk8 hle8 hle9 hle7
  rcases hec with he | he | he
  rotate_left
  · subst he
    repeat (first | refine cg_seq ?_ | refine cg_region ?_ | refine rg_nil ?_ | refine eg_then ?_ | refine qsp ?_ | refine qso ?_ | refine cg_cond_true rfl ?_ | refine cg_ret ?_ | refine eg_then_ret ?_)
    exact eg_return rfl rfl rfl
  · subst he
    repeat (first | refine cg_seq ?_ | refine cg_region ?_ | refine rg_nil ?_ | refine eg_then ?_ | refine qsp ?_ | refine cg_cond_true rfl ?_ | refine cg_ret ?_ | refine eg_then_ret ?_)
    exact eg_return rfl rfl rfl
  have hxow : OwnB 4398046511104 r.1.l := hrow7
  obtain ⟨x, rfl, hcx, hxg, hxs, hxl, hxid, hxo, hxw, htm⟩ := hlaw he
  have hff := refFind_ct h9 id
  have s3 := (Group.parts d9).2.2.2
  have s1 := (Group.parts d9).2.1
  have s2 := (Group.parts d9).2.2.1
  have p1 := (Group.parts c4).2.1
  have p3 := (Group.parts c4).2.2.2
  obtain ⟨si, hsi, hsl, hsid⟩ := hasId_idx hxid
  have hsi' : idxF (x, (0 : Int)).1.l (fun m => decide (m.id = id)) = (si : Int) := hsi
  rw [hsi'] at hff
  have z1 : (x.gen != g.gen) = false := by rw [hxg]; simp
  have z2 : (x.state != 2) = false := by rw [hxs]; rfl
  have z3 : ((x.l.length : Int) != (g.l.length : Int)) = false := by rw [hxl]; simp
  repeat (first | refine cg_seq ?_ | refine cg_region ?_ | refine rg_nil ?_ | refine eg_then ?_ | refine qsp ?_ | refine qsg ?_ | refine cg_cond_false rfl ?_ | refine cg_skip ?_)
  refine rs rfl rfl (loc_call_is rfl rfl rfl rfl (hff)) ?_
  repeat (first | refine cg_seq ?_ | refine cg_region ?_ | refine rg_nil ?_ | refine eg_then ?_ | refine qsp ?_ | refine qsl ?_ | refine qsf ?_)
  rw [show decide ((si : Int) < 0) = false by simp]
  skip
  rw [z1]
  repeat (first | refine qsp ?_ | refine qsl ?_ | refine qsf ?_)
  rw [z2]
  repeat (first | refine rg_nil ?_ | refine eg_then ?_ | refine qsp ?_ | refine qsn ?_ | refine qsl ?_ | refine qsf ?_)
  rw [z3]
  repeat (first | refine cg_seq ?_ | refine eg_then ?_ | refine cg_cond_false rfl ?_ | refine cg_skip ?_)
  have hxe := List.getElem?_eq_getElem hsl
  obtain ⟨by', oy, cy, eb, ⟨e0, f0, e1, f1, rfl, ⟨_, hyo⟩, _⟩, hcy⟩ := h9.el si _ hxe
  subst eb
  have n3 := (Member.parts hcy).2.2.2.1
  obtain ⟨bx2, ox2, cx2, ea2, ⟨a0', c0', a1', c1', rfl, ⟨_, hwo2⟩, _⟩, hcx2⟩ := hl.el i was hw
  cases ea2
  have m0 := (Member.parts hcx2).1
  have m3 := (Member.parts hcx2).2.2.2.1
  have hyw : x.l[si].own = was.own := hxo _ (List.getElem_mem hsl) hsid
  have htp := tps_ct hyo hwo2
  rw [show decide (x.l[si].own = was.own) = true by simp [hyw]] at htp
  have hxok : x.ok := hcx.ok
  have hxsm : SmallG x := smallG_of hcx hxow
  have bb3 := h9.cap; have bb4 := h9.max; unfold maxLen at bb4
  refine cg_any (by kernel_rfl) rfl ?_
  repeat (first | refine qwp ?_ | refine qwi ?_ | refine qwl ?_ | refine qwf ?_)
  refine ws rfl (loc_call_is rfl rfl rfl rfl (htp)) ?_
  repeat (first | refine qwp ?_ | (refine wn rfl ?_; refine eg_then ?_))
  repeat (first | refine cg_seq ?_)
  refine cg_newsto 17 14 15 15 24 (noG.cs none 0).toArray (fun k vs => ∃ (a : Option Addr) (c : Nat), vs = (beatG x was.id g.gen now).1.cs a c ∧ Sl tMember k a c (beatG x was.id g.gen now).1.l) (by kernel_rfl) (by kernel_rfl) rfl (by kernel_rfl) rfl rfl ?_
  dsimp only [List.take]
  repeat (first | refine qcp ?_ | refine qci ?_ | refine qcl ?_ | refine qcg ?_ | refine qcf ?_)
  refine wc_v (φ := GrpV (beatG x was.id g.gen now)) rfl (loc_call rfl rfl rfl rfl GrpV.mono (beat_ct (g := x) h9 hxok hxsm was.id g.gen now hnow)) rfl ?_
  refine wc_iv (φ := GrpV (beatG x was.id g.gen now)) rfl (loci_pure (t := 142) rfl (by kernel_rfl) rfl GrpV.mono fun v k1 _ h => ⟨v, rfl, h⟩) rfl ?_
  refine wc_iv (φ := GrpO (beatG x was.id g.gen now)) rfl (loci_pure (t := 131) rfl (by kernel_rfl) rfl GrpO.mono fun v k1 _ ⟨a, c, e1, h2⟩ => by subst e1; exact ⟨_, rfl, a, c, rfl, h2⟩) rfl ?_
  refine wc_iv (φ := fun _ v => v = .int .i64 (beatG x was.id g.gen now).2) rfl (loci_pure (t := 131) rfl (by kernel_rfl) rfl (fun _ _ _ _ h => h) fun v k1 _ ⟨a, c, e1, h2⟩ => by subst e1; exact ⟨_, rfl, rfl⟩) rfl ?_
  refine wc_e 0 rfl (eff_new3 rfl rfl rfl (a_alloc rfl) rfl) ?_
  refine wc_e 1 rfl (eff_sto3 (φ := GrpO (beatG x was.id g.gen now)) rfl rfl (Le.refl _) rfl rfl rfl (fun k u h => by
    obtain ⟨a, c, rfl, h2⟩ := h
    exact ⟨_, rfl, ⟨a, c, rfl, h2⟩, rfl, by simp [Group.cs, Value.oneCell']⟩) rfl) ?_
  refine wc_iv (φ := fun _ v => v = .int .i64 (beatG x was.id g.gen now).2) rfl (loci_pure (t := 144) rfl (by kernel_rfl) rfl (fun _ _ _ _ h => h) fun v k1 _ h => ⟨_, rfl, h⟩) rfl ?_
  refine wc_nil ?_
  intro k14a k14b vs b14 cells hle14a hΨ hle14b hb14 hN14 hda hvs
  obtain ⟨a14, c14, rfl, h14⟩ := hΨ
  have ee : vs 16 = .int .i64 (beatG x was.id g.gen now).2 := hvs 16 _ rfl
  clear hvs
  dsimp only [List.drop, set]
  simp only [nameE, nameP]
  rw [hda, ee]
  generalize vs 143 = w1
  generalize vs 144 = w2
  generalize vs 131 = w3
  generalize vs 142 = w4
  have hk14 := upd_same k14b b14 (.cells (((beatG x was.id g.gen now).1).cs a14 c14).toArray 24 (0, 0))
  have hle14 : Le k14a (upd k14b b14 (.cells (((beatG x was.id g.gen now).1).cs a14 c14).toArray 24 (0, 0))) := hle14b.upd (by
    cases hc : k14a b14 with
    | none => rfl
    | some ob => have := hle14b _ _ hc; rw [hb14] at this; cases this)
  generalize upd k14b b14 (.cells (((beatG x was.id g.gen now).1).cs a14 c14).toArray 24 (0, 0)) = k14 at hk14 hle14 ⊢
  have h14 := h14.le hle14
  have hle14 := hle14a.trans hle14
  clear hb14 hle14a hle14b hda ee
  rw [show (beatG x was.id g.gen now).2 = 230 from beat_no hcx g.gen htm hxw] 
  repeat (first | refine cg_seq ?_ | refine rg_nil ?_ | refine eg_then ?_)
  have c4 := c4.le hle14
  have d9 := d9.le hle14
  have h9 := h9.le hle14
  have hl := hl.le hle14
  have m0 := m0.le hle14
  have p1 := (Group.parts c4).2.1
  have p3 := (Group.parts c4).2.2.2
  have f1 := fence_ct (g := x) h9 hxok hxsm was.id g.gen
  rw [fence_no hcx g.gen hxw] at f1
  have f2 := fence_ct (g := x) h9 hxok hxsm id g.gen
  rw [fence_yes hcx hxid hxg.symm] at f2
  clear h14 hk14
  refine cg_any (by kernel_rfl) rfl ?_
  repeat (first | refine qwp ?_ | refine qwi ?_ | refine qwl ?_ | refine qwg ?_ | refine qwf ?_)
  refine ws rfl (loc_call_is rfl rfl rfl rfl (f1)) ?_
  repeat (first | refine qwp ?_ | refine qwl ?_ | refine qwg ?_ | refine qwf ?_)
  refine ws rfl (loc_call_is rfl rfl rfl rfl (f2)) ?_
  repeat (first | refine qwp ?_ | (refine wn rfl ?_; refine eg_then ?_))
  repeat (first | refine cg_ret ?_)
  exact eg_return rfl rfl rfl
end Go.Wm

/-
  Leave, Tick, the program's. Conditions: that what is handed in reads as data.
-/
import Derived.Test.YtbhgbfhgdccghaaGreatN13
import Derived.Test.YtbhgbfhgdccghaaGreatK14
set_option linter.all false
namespace Go.Wm
open Go.RowKit Go.Proofs
theorem KeepAt0.add {N : Nat} {KK k : PH} {bk b : Nat} {v : Value} {g : Group} {e : Int} {o : Obj} (h : KeepAt0 N KK k bk v g e) (hb : k b = some o) (hn : ¬ b = bk) (hv : v.ownBlock ≠ some b) : KeepAt0 N (upd KK b o) k bk v g e := by
  have hKK : Le KK (upd KK b o) := fun c ob hc => by
    by_cases e : c = b
    · subst e
      have := h.le _ _ hc
      rw [hb] at this
      rw [upd_same]; exact this
    · rw [upd_other e]; exact hc
  obtain ⟨css, u1, u2⟩ := h.row
  refine ⟨h.at', h.nb, upd_le h.le hb, (upd_other fun e => hn e.symm).trans h.kb, fun gg hgg => ?_, css, u1.le hKK, u2⟩
  rw [upd_other (fun e => hv (by rw [← e]; exact hgg))]
  exact h.ap gg hgg
def lateW (now most : Int) (m : Member) : Bool := decide (IntKind.i64.wrap (m.beat + most) < now)
theorem leave_told {g : Group} {id : ByteArray} {i : Nat} (hf : FindAt id g.l i) : lessW g (fun m => decide (m.id = id)) (wantE (chkG g) (metAt id g.l i || !true) 230) = leaveG g id := by
  unfold leaveG
  by_cases h : chkG g = 0
  · have hr := chk_right h
    rw [hf.pos hr, met_has hr, h]
    cases h3 : hasId id g.l
    · rw [if_neg (by simp), if_pos rfl]
      exact lessW_ne (by decide)
    · rw [if_neg (by simp), if_neg (by simp)]
      exact lessW_eq (chk_all h)
  · rw [wantE_ne h, if_pos h, lessW_ne h]
theorem tick_told {g : Group} {now most : Int} : lessW g (lateW now most) (wantE (chkG g) (timeOk now && timeOk most) 1) = tickG g now most := by
  unfold tickG
  by_cases h : chkG g = 0
  · rw [h]
    cases h3 : (timeOk now && timeOk most)
    · rw [if_neg (by simp), if_pos rfl]
      exact lessW_ne (by decide)
    · rw [if_neg (by simp), if_neg (by simp), wantE_t]
      have hc := chk_all h
      have h4 : timeOk most = true := (Bool.and_eq_true_iff.1 h3).2
      unfold timeOk at h4
      simp only [Bool.and_eq_true, decide_eq_true_eq] at h4
      rw [lessW_eq hc]
      congr 1
      apply List.filter_congr
      intro m hm
      have h5 := memOk_time ((right_all.1 hc.right).1 m hm)
      unfold timeOk at h5
      simp only [Bool.and_eq_true, decide_eq_true_eq] at h5
      unfold lateW lateM
      rw [show IntKind.i64.wrap (m.beat + most) = m.beat + most by rw [IntKind.wrap_i64]; omega]
  · rw [wantE_ne h, if_pos h, lessW_ne h]
attribute [local irreducible] RG CG EG WA Loc Det Alc CT Exit.then Exit.inBlock Code.wp bodyPost
theorem leave1_ct {k : PH} {b3 : Nat} {id : ByteArray} {x : Member} {cx : List Value} (h3 : Cells k b3 0 [.string id]) (hx : tMember.rep k cx x) : CT Tryz.prog 44 #[.agg cx.toArray, .pointer (some ⟨b3, 0, none⟩)] k (fun _ v => v = .bool (decide (x.id = id))) := by
  obtain ⟨d0, e0, d1, e1, rfl, _, _⟩ := hx
  refine ct_of_body (l := [_, _]) Tryz.func44 rfl Tryz.ntmps44 (by simp) (fun _ _ _ _ h => h) fun F hF0 hFm => ?_
  repeat (first | refine cg_seq ?_ | refine cg_region ?_)
  refine rb rfl rfl rfl rfl (a_box rfl rfl) ?_; intro b2 k2 hb2 hN2 hle2 hk2
  have h3 := h3.le hle2
  have r0 := (Member.parts (cells_at (vs := x.cs d0 e0 d1 e1) hk2 rfl)).1
  repeat (first | refine cg_seq ?_ | refine cg_region ?_ | refine rg_nil ?_ | refine eg_then ?_ | refine qsp ?_ | refine qsl ?_ | refine qsf ?_ | refine cg_ret ?_)
  exact eg_return rfl rfl rfl
theorem tick1_ct {k : PH} {b4 b5 : Nat} {now most : Int} {x : Member} {cx : List Value} (h4 : Cells k b4 0 [.int .i64 now]) (h5 : Cells k b5 0 [.int .i64 most]) (hx : tMember.rep k cx x) : CT Tryz.prog 47 #[.agg cx.toArray, .pointer (some ⟨b5, 0, none⟩), .pointer (some ⟨b4, 0, none⟩)] k (fun _ v => v = .bool (lateW now most x)) := by
  obtain ⟨d0, e0, d1, e1, rfl, _, _⟩ := hx
  refine ct_of_body (l := [_, _, _]) Tryz.func47 rfl Tryz.ntmps47 (by simp) (fun _ _ _ _ h => h) fun F hF0 hFm => ?_
  repeat (first | refine cg_seq ?_ | refine cg_region ?_)
  refine rb rfl rfl rfl rfl (a_box rfl rfl) ?_; intro b2 k2 hb2 hN2 hle2 hk2
  have h4 := h4.le hle2
  have h5 := h5.le hle2
  have r5 := (Member.parts (cells_at (vs := x.cs d0 e0 d1 e1) hk2 rfl)).2.2.2.2.2
  repeat (first | refine cg_seq ?_ | refine cg_region ?_ | refine rg_nil ?_ | refine eg_then ?_ | refine qsp ?_ | refine qsl ?_ | refine qsf ?_)
  refine rs rfl rfl (loc_det rfl (d_addW rfl rfl rfl)) ?_
  repeat (first | refine rg_nil ?_ | refine eg_then ?_ | refine qsp ?_ | refine qsl ?_ | refine cg_ret ?_)
  exact eg_return rfl rfl rfl
set_option maxHeartbeats 2000000 in
theorem leave_ct {k : PH} {g : Group} {a : Option Addr} {c : Nat} (hl : Sl tMember k a c g.l) (hok : g.ok) (hsm : SmallG g) (id : ByteArray) : CT Tryz.prog 13 #[.agg (g.cs a c).toArray, .string id] k (GrpV (leaveG g id)) := by
  refine ct_of_body (l := [_, _]) Tryz.func13 rfl Tryz.ntmps13 (by simp) GrpV.mono fun F hF0 hFm => ?_
  have hb : g.l.length ≤ 1000000000000000 := by have := hsm.1; omega
  repeat (first | refine cg_seq ?_ | refine cg_region ?_)
  refine rb rfl rfl rfl rfl (a_box rfl rfl) ?_; intro b2 k2 hb2 hN2 hle2 hk2
  skip
  refine rb rfl rfl rfl rfl (a_box rfl rfl) ?_; intro b3 k3 hb3 hN3 hle3 hk3
  skip
  refine rb rfl rfl rfl rfl (a_alloc rfl) ?_; intro b4 k4 hb4 hN4 hle4 hk4
  have cg := (cells_at (vs := g.cs a c) hk2 rfl).le (hle3.trans hle4)
  have hk34 := hle4 _ _ hk3
  have hl := hl.le (hle2.trans hle3)
  have n34 : b3 ≠ b4 := fun e => by rw [← e, hk3] at hb4; cases hb4
  repeat (first | refine cg_seq ?_ | refine cg_region ?_ | refine rg_nil ?_ | refine eg_then ?_ | refine qsp ?_ | refine qsg ?_)
  refine rvnh rfl rfl rfl rfl rfl rfl rfl hle4 (keep_ctn hl hok hsm) ?_
  rintro N k0 k7 _ hN7 hnew _ hold hle7 hle07 ⟨bk, KK, v, rfl, h7⟩
  have hK4 : KK b4 = none := by
    cases hc : KK b4 with
    | none => rfl
    | some ob => have := h7.le _ _ hc; rw [hold b4 _ hk4, hb4] at this; cases this
  have h7 := h7.up hle07
  have hbn : F.w0.heap.size ≤ bk := Nat.le_trans hN7 h7.nb
  have om : ∀ b, b = bk → F.w0.heap.size ≤ b ∨ F.mu b := fun b hb => .inl (by rw [hb]; exact hbn)
  have n3 : ¬ b3 = bk := fun e => by have := hnew bk h7.nb; rw [← e, hk34] at this; cases this
  have n4 : ¬ b4 = bk := fun e => by have := hnew bk h7.nb; rw [← e, hk4] at this; cases this
  have s7 := hle7 _ _ hk34
  have r7 := hle7 _ _ hk4
  have c3 := cells_at (vs := [.string id]) s7 rfl
  repeat (first | refine cg_seq ?_ | refine cg_region ?_ | refine rg_nil ?_ | refine eg_then ?_ | refine qsp ?_ | refine qsl ?_)
  refine rcm rfl rfl rfl rfl rfl rfl rfl (find_ctm h7 hb id true) om ?_
  rintro _ k8 hle8 ⟨i, rfl, hfa, h8⟩
  have s8 := le_one hle8 s7 n3
  have r8 := le_one hle8 r7 n4
  obtain ⟨css, u1, u2, _⟩ := h8.row
  have nv3 : v.ownBlock ≠ some b3 := fun e => by obtain ⟨c, hc⟩ := u2.typ e; rw [s8] at hc; simp at hc
  have nv4 : v.ownBlock ≠ some b4 := fun e => by obtain ⟨c, hc⟩ := u2.typ e; rw [r8] at hc; simp at hc
  have ov : ∀ b, v.ownBlock = some b → F.w0.heap.size ≤ b ∨ F.mu b := fun b hb => .inl (Nat.le_trans hN7 (u2.block hb).1)
  have h9 := h8.to0.add s8 n3 nv3
  have hK9 := (upd_other (o := .cells (Value.string id).cells 9 (0, 0)) (Ne.symm n34)).trans hK4
  have hle := less_ctm (fg := 44) (cap := #[.pointer (some ⟨b3, 0, none⟩)]) h9 hok.2.1 (fun m => decide (m.id = id)) (fun k0 hk0 x cm hcm => leave1_ct (cells_at (vs := [.string id]) (hk0 _ _ (upd_same _ _ _)) rfl) hcm)
  rw [leave_told hfa] at hle
  clear c3 s7 r7 h7 hle8 hle7
  repeat (first | refine cg_seq ?_ | refine cg_region ?_ | refine rg_nil ?_ | refine eg_then ?_ | refine qsp ?_)
  refine rcm rfl rfl rfl rfl rfl rfl rfl hle (fun b hb => hb.elim (om b) (ov b)) ?_
  rintro _ k9 hle9 ⟨a9, c9, css9, rfl, hp9, hr9⟩
  have r9 := le_one hle9 r8 (fun hb => hb.elim (fun e => n4 e) fun e => nv4 e)
  have hA9 := hle9 _ h9.le (fun b hb => hb.elim (fun e => by rw [e]; exact h9.kb) fun e => h9.ap b e)
  repeat (first | refine qsp ?_)
  refine rw1 (vs := (leaveG g id).1.cs a9 c9) rfl rfl rfl rfl rfl rfl rfl r9 rfl (.inl hN4) (by simp [Group.cs, Value.oneCell']) ?_
  intro k10 ht10 hk10
  repeat (first | refine rg_nil ?_ | refine eg_then ?_ | refine qsp ?_ | refine cg_ret ?_)
  exact eg_returnC2 rfl rfl rfl rfl (cells_at (vs := (leaveG g id).1.cs a9 c9) hk10 rfl) rfl ⟨a9, c9, rfl, GrpR.sl hp9 (hr9.turnY ht10 r9 (by decide)) (ht10 _ hA9 hK9)⟩
set_option maxHeartbeats 2000000 in
theorem tick_ct {k : PH} {g : Group} {a : Option Addr} {c : Nat} (hl : Sl tMember k a c g.l) (hok : g.ok) (hsm : SmallG g) (now most : Int) : CT Tryz.prog 15 #[.agg (g.cs a c).toArray, .int .i64 now, .int .i64 most] k (GrpV (tickG g now most)) := by
  refine ct_of_body (l := [_, _, _]) Tryz.func15 rfl Tryz.ntmps15 (by simp) GrpV.mono fun F hF0 hFm => ?_
  have hb : g.l.length ≤ 1000000000000000 := by have := hsm.1; omega
  repeat (first | refine cg_seq ?_ | refine cg_region ?_)
  refine rb rfl rfl rfl rfl (a_box rfl rfl) ?_; intro b2 k2 hb2 hN2 hle2 hk2
  skip
  refine rb rfl rfl rfl rfl (a_box rfl rfl) ?_; intro b3 k3 hb3 hN3 hle3 hk3
  skip
  refine rb rfl rfl rfl rfl (a_box rfl rfl) ?_; intro b5 k5 hb5 hN5 hle5 hk5
  skip
  refine rb rfl rfl rfl rfl (a_alloc rfl) ?_; intro b4 k4 hb4 hN4 hle4 hk4
  have cg := (cells_at (vs := g.cs a c) hk2 rfl).le (hle3.trans (hle5.trans hle4))
  have hk34 := hle4 _ _ (hle5 _ _ hk3)
  have hk54 := hle4 _ _ hk5
  have hl := hl.le (hle2.trans (hle3.trans hle5))
  have n34 : b3 ≠ b4 := fun e => by have := hle5 _ _ hk3; rw [e, hb4] at this; cases this
  have n54 : b5 ≠ b4 := fun e => by rw [← e, hk5] at hb4; cases hb4
  have n35 : b3 ≠ b5 := fun e => by rw [← e, hk3] at hb5; cases hb5
  repeat (first | refine cg_seq ?_ | refine cg_region ?_ | refine rg_nil ?_ | refine eg_then ?_ | refine qsp ?_ | refine qsg ?_)
  refine rvnh rfl rfl rfl rfl rfl rfl rfl hle4 (keep_ctn hl hok hsm) ?_
  rintro N k0 k7 _ hN7 hnew _ hold hle7 hle07 ⟨bk, KK, v, rfl, h7⟩
  have hK4 : KK b4 = none := by
    cases hc : KK b4 with
    | none => rfl
    | some ob => have := h7.le _ _ hc; rw [hold b4 _ hk4, hb4] at this; cases this
  have h7 := h7.up hle07
  have hbn : F.w0.heap.size ≤ bk := Nat.le_trans hN7 h7.nb
  have om : ∀ b, b = bk → F.w0.heap.size ≤ b ∨ F.mu b := fun b hb => .inl (by rw [hb]; exact hbn)
  have n3 : ¬ b3 = bk := fun e => by have := hnew bk h7.nb; rw [← e, hk34] at this; cases this
  have n5 : ¬ b5 = bk := fun e => by have := hnew bk h7.nb; rw [← e, hk54] at this; cases this
  have n4 : ¬ b4 = bk := fun e => by have := hnew bk h7.nb; rw [← e, hk4] at this; cases this
  have s7 := hle7 _ _ hk34
  have t7 := hle7 _ _ hk54
  have r7 := hle7 _ _ hk4
  have c3 := cells_at (vs := [.int .i64 now]) s7 rfl
  have c5 := cells_at (vs := [.int .i64 most]) t7 rfl
  obtain ⟨tb, htb⟩ : ∃ tb, (timeOk now && timeOk most) = tb := ⟨_, rfl⟩
  repeat (first | refine cg_seq ?_ | refine cg_region ?_ | refine rg_nil ?_ | refine eg_then ?_ | refine qsp ?_ | refine qsl ?_)
  refine rs rfl rfl (loc_call_is rfl rfl rfl rfl (time_ct now)) ?_
  repeat (first | refine qsp ?_)
  apply meetR (k := k7) [(11, .is (.pointer (some ⟨bk, 0, none⟩))), (17, .is (.bool tb)), (8, .is (.pointer (some ⟨bk, 0, none⟩))), (4, .is (.pointer (some ⟨b3, 0, none⟩))), (5, .is (.pointer (some ⟨b5, 0, none⟩))), (6, .is (.pointer (some ⟨b4, 0, none⟩)))] True
  · intro go
    cases q : timeOk now
    · rw [q] at htb
      repeat (first | refine qsp ?_ | refine qso ?_)
      exact go _ trivial ⟨rfl, by rw [← htb]; rfl, rfl, rfl, rfl, rfl, trivial⟩
    · rw [q] at htb
      repeat (first | refine qsl ?_)
      refine rs rfl rfl (loc_call_is rfl rfl rfl rfl (time_ct most)) ?_
      repeat (first | refine qsp ?_)
      exact go _ trivial ⟨rfl, by rw [← htb]; rfl, rfl, rfl, rfl, rfl, trivial⟩
  rintro -
  refine rcm rfl rfl rfl rfl rfl rfl rfl (want_ctm h7 tb 1) om ?_
  rintro _ k8 hle8 ⟨rfl, h8⟩
  have s8 := le_one hle8 s7 n3
  have t8 := le_one hle8 t7 n5
  have r8 := le_one hle8 r7 n4
  obtain ⟨css, u1, u2, _⟩ := h8.row
  have nv3 : v.ownBlock ≠ some b3 := fun e => by obtain ⟨c, hc⟩ := u2.typ e; rw [s8] at hc; simp at hc
  have nv5 : v.ownBlock ≠ some b5 := fun e => by obtain ⟨c, hc⟩ := u2.typ e; rw [t8] at hc; simp at hc
  have nv4 : v.ownBlock ≠ some b4 := fun e => by obtain ⟨c, hc⟩ := u2.typ e; rw [r8] at hc; simp at hc
  have ov : ∀ b, v.ownBlock = some b → F.w0.heap.size ≤ b ∨ F.mu b := fun b hb => .inl (Nat.le_trans hN7 (u2.block hb).1)
  have h9 := (h8.to0.add s8 n3 nv3).add t8 n5 nv5
  have hK9 := (upd_other (o := .cells (Value.int .i64 most).cells 3 (0, 0)) (Ne.symm n54)).trans ((upd_other (o := .cells (Value.int .i64 now).cells 3 (0, 0)) (Ne.symm n34)).trans hK4)
  have hle := less_ctm (fg := 47) (cap := #[.pointer (some ⟨b5, 0, none⟩), .pointer (some ⟨b3, 0, none⟩)]) h9 hok.2.1 (lateW now most) (fun k0 hk0 x cm hcm => tick1_ct (cells_at (vs := [.int .i64 now]) (hk0 _ _ ((upd_other n35).trans (upd_same _ _ _))) rfl) (cells_at (vs := [.int .i64 most]) (hk0 _ _ (upd_same _ _ _)) rfl) hcm)
  rw [← htb, tick_told] at hle
  clear c3 c5 s7 t7 r7 h7 hle8 hle7
  repeat (first | refine cg_seq ?_ | refine cg_region ?_ | refine rg_nil ?_ | refine eg_then ?_ | refine qsp ?_)
  refine rcm rfl rfl rfl rfl rfl rfl rfl hle (fun b hb => hb.elim (om b) (ov b)) ?_
  rintro _ k9 hle9 ⟨a9, c9, css9, rfl, hp9, hr9⟩
  have r9 := le_one hle9 r8 (fun hb => hb.elim (fun e => n4 e) fun e => nv4 e)
  have hA9 := hle9 _ h9.le (fun b hb => hb.elim (fun e => by rw [e]; exact h9.kb) fun e => h9.ap b e)
  repeat (first | refine qsp ?_)
  refine rw1 (vs := (tickG g now most).1.cs a9 c9) rfl rfl rfl rfl rfl rfl rfl r9 rfl (.inl hN4) (by simp [Group.cs, Value.oneCell']) ?_
  intro k10 ht10 hk10
  repeat (first | refine rg_nil ?_ | refine eg_then ?_ | refine qsp ?_ | refine cg_ret ?_)
  exact eg_returnC2 rfl rfl rfl rfl (cells_at (vs := (tickG g now most).1.cs a9 c9) hk10 rfl) rfl ⟨a9, c9, rfl, GrpR.sl hp9 (hr9.turnY ht10 r9 (by decide)) (ht10 _ hA9 hK9)⟩
end Go.Wm

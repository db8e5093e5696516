/-
  How this seat's program was made. Conditions: none.
-/
import Derived.Test.YtnijbmmghpbmgaaN13
import Derived.Test.YtnijbmmghpbmgaaR2
import Derived.Test.YtnijbmmghpbmgaaDat
import Derived.Test.YtnijbmmghpbmgaaRows
set_option linter.all false
namespace Go.Wm
open Go.RowKit Go.Proofs
theorem KeepAt0.add {N : Nat} {KK k : PH} {bk b : Nat} {v : Value} {g : Group} {e : Int} {o : Obj} (h : KeepAt0 N KK k bk v g e) (hb : k b = some o) (hn : ¬ b = bk) (hv : v.ownBlock ≠ some b) : KeepAt0 N (upd KK b o) k bk v g e := by
  have hKK : Le KK (upd KK b o) := fun c ob hc => by
    by_cases e : c = b
    · subst e
      have := h.le _ _ hc
      rw [hb] at this
      rw [upd_same]; exact this
    · rw [upd_other e]; exact hc
  obtain ⟨css, u1, u2⟩ := h.row
  refine ⟨h.at', h.nb, upd_le h.le hb, (upd_other fun e => hn e.symm).trans h.kb, fun gg hgg => ?_, css, u1.le hKK, u2⟩
  rw [upd_other (fun e => hv (by rw [← e]; exact hgg))]
  exact h.ap gg hgg
def lateW (now most : Int) (m : Member) : Bool := decide (IntKind.i64.wrap (m.beat + most) < now)
theorem tick_told {g : Group} {now most : Int} : lessW g (lateW now most) (wantE (chkG g) (timeOk now && timeOk most) 1) = tickG g now most := by
  unfold tickG
  by_cases h : chkG g = 0
  · rw [h]
    cases h3 : (timeOk now && timeOk most)
    · rw [if_neg (by simp), if_pos rfl]
      exact lessW_ne (by decide)
    · rw [if_neg (by simp), if_neg (by simp), wantE_t]
      have hc := chk_all h
      have h4 : timeOk most = true := (Bool.and_eq_true_iff.1 h3).2
      unfold timeOk at h4
      simp only [Bool.and_eq_true, decide_eq_true_eq] at h4
      rw [lessW_eq hc]
      congr 1
      apply List.filter_congr
      intro m hm
      have h5 := memOk_time ((right_all.1 hc.right).1 m hm)
      unfold timeOk at h5
      simp only [Bool.and_eq_true, decide_eq_true_eq] at h5
      unfold lateW lateM
      rw [show IntKind.i64.wrap (m.beat + most) = m.beat + most by rw [IntKind.wrap_i64]; omega]
  · rw [wantE_ne h, if_pos h, lessW_ne h]
attribute [local irreducible] RG CG EG WA Loc Det Alc CT Exit.then Exit.inBlock Code.wp bodyPost
theorem tick1_ct {k : PH} {b4 b5 : Nat} {now most : Int} {x : Member} {cx : List Value} (h4 : Cells k b4 0 [.int .i64 now]) (h5 : Cells k b5 0 [.int .i64 most]) (hx : tMember.rep k cx x) : CT Try.prog 76 #[.agg cx.toArray, .pointer (some ⟨b5, 0, none⟩), .pointer (some ⟨b4, 0, none⟩)] k (fun _ v => v = .bool (lateW now most x)) := by
  obtain ⟨d0, e0, d1, e1, rfl, _, _⟩ := hx
  refine ct_of_body (l := [_, _, _]) Try.func76 rfl Try.ntmps76 (by simp) (fun _ _ _ _ h => h) fun F hF0 hFm => ?_
  repeat (first | refine cg_seq ?_ | refine cg_region ?_)
  refine rb rfl rfl rfl rfl (a_box rfl rfl) ?_; intro b2 k2 hb2 hN2 hle2 hk2
  have h4 := h4.le hle2
  have h5 := h5.le hle2
  have r5 := (Member.parts (cells_at (vs := x.cs d0 e0 d1 e1) hk2 rfl)).2.2.2.2.2
  repeat (first | refine cg_seq ?_ | refine cg_region ?_ | refine rg_nil ?_ | refine eg_then ?_ | refine qsp ?_ | refine qsl ?_ | refine qsf ?_)
  refine rs rfl rfl (loc_det rfl (d_addW rfl rfl rfl)) ?_
  repeat (first | refine rg_nil ?_ | refine eg_then ?_ | refine qsp ?_ | refine qsl ?_ | refine cg_ret ?_)
  exact eg_return rfl rfl rfl
set_option maxHeartbeats 2000000 in
theorem tick_ct {k : PH} {g : Group} {a : Option Addr} {c : Nat} (hl : Sl tMember k a c g.l) (hok : g.ok) (hsm : SmallG g) (now most : Int) : CT Try.prog 24 #[.agg (g.cs a c).toArray, .int .i64 now, .int .i64 most] k (GrpV (tickG g now most)) := by
  refine ct_of_body (l := [_, _, _]) Try.func24 rfl Try.ntmps24 (by simp) GrpV.mono fun F hF0 hFm => ?_
  have hb : g.l.length ≤ 1000000000000000 := by have := hsm.1; omega
  repeat (first | refine cg_seq ?_ | refine cg_region ?_)
  refine rb rfl rfl rfl rfl (a_box rfl rfl) ?_; intro b2 k2 hb2 hN2 hle2 hk2
  skip
  refine rb rfl rfl rfl rfl (a_box rfl rfl) ?_; intro b3 k3 hb3 hN3 hle3 hk3
  skip
  refine rb rfl rfl rfl rfl (a_box rfl rfl) ?_; intro b5 k5 hb5 hN5 hle5 hk5
  skip
  refine rb rfl rfl rfl rfl (a_alloc rfl) ?_; intro b4 k4 hb4 hN4 hle4 hk4
  have cg := (cells_at (vs := g.cs a c) hk2 rfl).le (hle3.trans (hle5.trans hle4))
  have hk34 := hle4 _ _ (hle5 _ _ hk3)
  have hk54 := hle4 _ _ hk5
  have hl := hl.le (hle2.trans (hle3.trans hle5))
  have n34 : b3 ≠ b4 := fun e => by have := hle5 _ _ hk3; rw [e, hb4] at this; cases this
  have n54 : b5 ≠ b4 := fun e => by rw [← e, hk5] at hb4; cases hb4
  have n35 : b3 ≠ b5 := fun e => by rw [← e, hk3] at hb5; cases hb5
  repeat (first | refine cg_seq ?_ | refine cg_region ?_ | refine rg_nil ?_ | refine eg_then ?_ | refine qsp ?_ | refine qsg ?_)
  refine rvnh rfl rfl rfl rfl rfl rfl rfl hle4 (keep_ctn hl hok hsm) ?_
  rintro N k0 k7 _ hN7 hnew _ hold hle7 hle07 ⟨bk, KK, v, rfl, h7⟩
  have hK4 : KK b4 = none := by
    cases hc : KK b4 with
    | none => rfl
    | some ob => have := h7.le _ _ hc; rw [hold b4 _ hk4, hb4] at this; cases this
  have h7 := h7.up hle07
  have hbn : F.w0.heap.size ≤ bk := Nat.le_trans hN7 h7.nb
  have om : ∀ b, b = bk → F.w0.heap.size ≤ b ∨ F.mu b := fun b hb => .inl (by rw [hb]; exact hbn)
  have n3 : ¬ b3 = bk := fun e => by have := hnew bk h7.nb; rw [← e, hk34] at this; cases this
  have n5 : ¬ b5 = bk := fun e => by have := hnew bk h7.nb; rw [← e, hk54] at this; cases this
  have n4 : ¬ b4 = bk := fun e => by have := hnew bk h7.nb; rw [← e, hk4] at this; cases this
  have s7 := hle7 _ _ hk34
  have t7 := hle7 _ _ hk54
  have r7 := hle7 _ _ hk4
  have c3 := cells_at (vs := [.int .i64 now]) s7 rfl
  have c5 := cells_at (vs := [.int .i64 most]) t7 rfl
  obtain ⟨tb, htb⟩ : ∃ tb, (timeOk now && timeOk most) = tb := ⟨_, rfl⟩
  repeat (first | refine cg_seq ?_ | refine cg_region ?_ | refine rg_nil ?_ | refine eg_then ?_ | refine qsp ?_ | refine qsl ?_)
  refine rs rfl rfl (loc_call_is rfl rfl rfl rfl (time_ct now)) ?_
  repeat (first | refine qsp ?_)
  apply meetR (k := k7) [(11, .is (.pointer (some ⟨bk, 0, none⟩))), (17, .is (.bool tb)), (8, .is (.pointer (some ⟨bk, 0, none⟩))), (4, .is (.pointer (some ⟨b3, 0, none⟩))), (5, .is (.pointer (some ⟨b5, 0, none⟩))), (6, .is (.pointer (some ⟨b4, 0, none⟩)))] True
  · intro go
    cases q : timeOk now
    · rw [q] at htb
      repeat (first | refine qsp ?_ | refine qso ?_)
      exact go _ trivial ⟨rfl, by rw [← htb]; rfl, rfl, rfl, rfl, rfl, trivial⟩
    · rw [q] at htb
      repeat (first | refine qsl ?_)
      refine rs rfl rfl (loc_call_is rfl rfl rfl rfl (time_ct most)) ?_
      repeat (first | refine qsp ?_)
      exact go _ trivial ⟨rfl, by rw [← htb]; rfl, rfl, rfl, rfl, rfl, trivial⟩
  rintro -
  refine rcm rfl rfl rfl rfl rfl rfl rfl (want_ctm h7 tb 1) om ?_
  rintro _ k8 hle8 ⟨rfl, h8⟩
  have s8 := le_one hle8 s7 n3
  have t8 := le_one hle8 t7 n5
  have r8 := le_one hle8 r7 n4
  obtain ⟨css, u1, u2, _⟩ := h8.row
  have nv3 : v.ownBlock ≠ some b3 := fun e => by obtain ⟨c, hc⟩ := u2.typ e; rw [s8] at hc; simp at hc
  have nv5 : v.ownBlock ≠ some b5 := fun e => by obtain ⟨c, hc⟩ := u2.typ e; rw [t8] at hc; simp at hc
  have nv4 : v.ownBlock ≠ some b4 := fun e => by obtain ⟨c, hc⟩ := u2.typ e; rw [r8] at hc; simp at hc
  have ov : ∀ b, v.ownBlock = some b → F.w0.heap.size ≤ b ∨ F.mu b := fun b hb => .inl (Nat.le_trans hN7 (u2.block hb).1)
  have h9 := (h8.to0.add s8 n3 nv3).add t8 n5 nv5
  have hK9 := (upd_other (o := .cells (Value.int .i64 most).cells 3 (0, 0)) (Ne.symm n54)).trans ((upd_other (o := .cells (Value.int .i64 now).cells 3 (0, 0)) (Ne.symm n34)).trans hK4)
  have hle := less_ctm (fg := 76) (cap := #[.pointer (some ⟨b5, 0, none⟩), .pointer (some ⟨b3, 0, none⟩)]) h9 hok.2.1 (lateW now most) (fun k0 hk0 x cm hcm => tick1_ct (cells_at (vs := [.int .i64 now]) (hk0 _ _ ((upd_other n35).trans (upd_same _ _ _))) rfl) (cells_at (vs := [.int .i64 most]) (hk0 _ _ (upd_same _ _ _)) rfl) hcm)
  rw [← htb, tick_told] at hle
  clear c3 c5 s7 t7 r7 h7 hle8 hle7
  repeat (first | refine cg_seq ?_ | refine cg_region ?_ | refine rg_nil ?_ | refine eg_then ?_ | refine qsp ?_)
  refine rcm rfl rfl rfl rfl rfl rfl rfl hle (fun b hb => hb.elim (om b) (ov b)) ?_
  rintro _ k9 hle9 ⟨a9, c9, css9, rfl, hp9, hr9⟩
  have r9 := le_one hle9 r8 (fun hb => hb.elim (fun e => n4 e) fun e => nv4 e)
  have hA9 := hle9 _ h9.le (fun b hb => hb.elim (fun e => by rw [e]; exact h9.kb) fun e => h9.ap b e)
  repeat (first | refine qsp ?_)
  refine rw1 (vs := (tickG g now most).1.cs a9 c9) rfl rfl rfl rfl rfl rfl rfl r9 rfl (.inl hN4) (by simp [Group.cs, Value.oneCell']) ?_
  intro k10 ht10 hk10
  repeat (first | refine rg_nil ?_ | refine eg_then ?_ | refine qsp ?_ | refine cg_ret ?_)
  exact eg_returnC2 rfl rfl rfl rfl (cells_at (vs := (tickG g now most).1.cs a9 c9) hk10 rfl) rfl ⟨a9, c9, rfl, GrpR.sl hp9 (hr9.turnY ht10 r9 (by decide)) (ht10 _ hA9 hK9)⟩
end Go.Wm
namespace Go.Wm
open Go.RowKit Go.Proofs
theorem filter_both {α : Type} (p : α → Bool) : ∀ l : List α, (l.filter fun m => !p m).length + (l.filter p).length = l.length
  | [] => rfl
  | a :: l => by
    have ih := filter_both p l
    cases h : p a <;> simp [h] <;> omega
theorem lessG_no {g : Group} {l : List Member} (h : (lessG g l).2 ≠ 0) : (lessG g l).1 = noG := by
  unfold lessG at h ⊢
  repeat' split
  all_goals first | rfl | (simp_all; done)
theorem tick_no {g : Group} {now most : Int} (h : (tickG g now most).2 ≠ 0) : (tickG g now most).1 = noG := by
  unfold tickG at h ⊢
  split
  · rfl
  rename_i h1
  rw [if_neg h1] at h
  split
  · rfl
  rename_i h2
  rw [if_neg h2] at h
  exact lessG_no h
theorem lessG_all {x : Group} (h : ChkG x) : lessG x x.l = (x, 0) := by
  unfold lessG
  rw [if_neg (by omega), ← h.state]
theorem tick_law {g x : Group} {now most : Int} (he : tickG g now most = (x, 0)) :
    ChkG g ∧ timeOk now = true ∧ timeOk most = true ∧ ChkG x ∧ (∀ m ∈ g.l, hasId m.id x.l = !lateM now most m) ∧ x.l.length + (g.l.filter (lateM now most)).length = g.l.length ∧ tickG x now most = (x, 0) ∧
    ((g.l.filter (lateM now most)).length = 0 → x = g) ∧ ((g.l.filter (lateM now most)).length ≠ 0 → 0 < x.l.length → g.state = 2 → x.gen = g.gen + 1 ∧ x.state = 1) := by
  have hx := tick_ok (g := g) (now := now) (most := most) (by rw [he])
  rw [he] at hx
  have hx : ChkG x := hx
  unfold tickG at he
  split at he
  · rename_i h; exact absurd (Prod.mk.inj he).2 h
  rename_i h
  have hc := chk_all (Decidable.not_not.1 h)
  split at he
  · cases he
  rename_i h2
  simp only [Bool.not_eq_false, Bool.and_eq_true] at h2
  have hlen : (g.l.filter fun m => !lateM now most m).length + (g.l.filter (lateM now most)).length = g.l.length := filter_both _ _
  have hxl : x.l = (g.l.filter fun m => !lateM now most m) ∨ x.l = (g.l.filter fun m => !lateM now most m).map unjoin := by
    unfold lessG at he
    repeat' split at he
    · cases he; exact .inr rfl
    · cases he
    · cases he; exact .inl rfl
  have hnl : ∀ y ∈ x.l, lateM now most y = false := fun y hy => by
    rcases hxl with e | e
    · rw [e] at hy
      simpa using (List.mem_filter.1 hy).2
    · rw [e] at hy
      obtain ⟨z, hz, rfl⟩ := List.mem_map.1 hy
      have := (List.mem_filter.1 hz).2
      show lateM now most z = false
      simpa using this
  refine ⟨hc, h2.1, h2.2, hx, ?_, ?_, ?_, ?_, ?_⟩
  · intro m hm
    have key : hasId m.id (g.l.filter fun m => !lateM now most m) = !lateM now most m := by
      cases hq : lateM now most m
      · exact hasId_true.2 ⟨m, List.mem_filter.2 ⟨hm, by rw [hq]; rfl⟩, rfl⟩
      · refine hasId_false.2 fun y hy e => ?_
        obtain ⟨hy1, hy2⟩ := List.mem_filter.1 hy
        have := id_uniq hc.right hy1 hm e
        subst this
        rw [hq] at hy2; cases hy2
    rcases hxl with e | e
    · rw [e]; exact key
    · rw [e, hasId_unjoin]; exact key
  · rcases hxl with e | e
    · rw [e]; exact hlen
    · rw [e, List.length_map]; exact hlen
  · unfold tickG
    rw [if_neg (by rw [chk_of hx]; simp), if_neg (by rw [h2.1, h2.2]; simp)]
    have : (x.l.filter fun m => !lateM now most m) = x.l := List.filter_eq_self.2 fun y hy => by rw [hnl y hy]; rfl
    rw [this]
    exact lessG_all hx
  · intro h0
    have hf : (g.l.filter fun m => !lateM now most m) = g.l := by
      apply List.filter_eq_self.2
      intro y hy
      cases hq : lateM now most y
      · rfl
      · have : y ∈ g.l.filter (lateM now most) := List.mem_filter.2 ⟨hy, hq⟩
        rw [List.length_eq_zero_iff.1 h0] at this; cases this
    rw [hf, lessG_all hc] at he
    cases he; rfl
  · intro h0 h1 h3
    unfold lessG at he
    split at he
    · rename_i hcnd
      split at he
      · cases he
        refine ⟨rfl, ?_⟩
        show stateG _ = 1
        unfold stateG
        rw [List.length_map, if_neg (by omega), if_pos]
        obtain ⟨y, hy⟩ := List.exists_mem_of_length_pos hcnd.2.1
        exact List.any_eq_true.2 ⟨unjoin y, List.mem_map.2 ⟨y, hy, rfl⟩, rfl⟩
      · cases he
    · rename_i hcnd
      cases he
      exact absurd ⟨by dsimp only at h1 ⊢; omega, h1, h3⟩ hcnd
end Go.Wm
namespace Go.Wm
open Go.RowKit Go.Proofs
attribute [local irreducible] RG CG EG WA Loc Det Alc CT Exit.then Exit.inBlock Code.wp bodyPost
set_option maxHeartbeats 8000000 in
theorem groupTicks_walk {k : PH} {g : Group} {cg : List Value} (hg : tGroup.rep k cg g) (hsml : g.small) {now : Int} (hnow : I64 now) {most : Int} (hmost : I64 most) : CT Try.prog 6 #[.agg cg.toArray, .int .i64 now, .int .i64 most] k (fun _ v => v = .bool true) := by
  obtain ⟨a, c, rfl, hl, hok⟩ := hg
  have hsm := Group.smallG hsml
  refine ct_of_body (l := [_, _, _]) Try.func6 rfl Try.ntmps6 (by simp) (fun _ _ _ _ h => h) fun F hF0 hFm => ?_
  have b1 := hl.cap; have b2 := hl.max; unfold maxLen at b2
  repeat (first | refine cg_seq ?_ | refine cg_region ?_)
  refine rb rfl rfl rfl rfl (a_box rfl rfl) ?_; intro b3 k3 hb3 hN3 hle3 hk3
  have hl := hl.le hle3
  have c3 := cells_at (vs := g.cs a c) hk3 rfl
  repeat (first | refine cg_seq ?_ | refine cg_region ?_ | refine rg_nil ?_ | refine eg_then ?_ | refine qsp ?_)
  refine rs rfl rfl (loc_call_is rfl rfl rfl rfl (live_ct)) ?_
  repeat (first | refine cg_seq ?_ | refine cg_region ?_ | refine rg_nil ?_ | refine eg_then ?_ | refine qsp ?_ | refine qsg ?_ | refine cg_cond_false rfl ?_ | refine cg_skip ?_)
  refine rs rfl rfl (loc_call_is rfl rfl rfl rfl (few_ct hl)) ?_
  cases q1 : fewG g
  · repeat (first | refine cg_seq ?_ | refine cg_region ?_ | refine rg_nil ?_ | refine eg_then ?_ | refine qsp ?_ | refine cg_cond_true rfl ?_ | refine cg_ret ?_ | refine eg_then_ret ?_)
    exact eg_return rfl rfl rfl
  have htc := tick_ct hl hok hsm now most
  have hlaw := @tick_law g
  have hno := @tick_no g now most
  have hto := tick_own (now := now) (most := most) (small_own hsm)
  repeat (first | refine cg_seq ?_ | refine cg_region ?_ | refine rg_nil ?_ | refine eg_then ?_ | refine qsp ?_ | refine qsg ?_ | refine cg_cond_false rfl ?_ | refine cg_skip ?_)
  refine rv rfl rfl rfl (loc_call rfl rfl rfl rfl GrpV.mono htc) ?_
  rintro k7 hle7 _ ⟨a7, c7, rfl, h7⟩
  obtain ⟨r, hr⟩ : ∃ r, tickG g now most = r := ⟨_, rfl⟩
  rw [hr] at h7 hno hto ⊢
  have c3 := c3.le hle7
  have hl := hl.le hle7
  repeat (first | refine qsp ?_)
  refine rb rfl rfl rfl rfl (a_alloc rfl) ?_; intro b8 k8 hb8 hN8 hle8 hk8
  refine rw1 (vs := r.1.cs a7 c7) rfl rfl rfl rfl rfl rfl rfl hk8 rfl (.inl hN8) (by simp [Group.cs, Value.oneCell']) ?_
  intro k9 ht9 hk9
  have hle9 := ht9 k7 hle8 hb8
  have h9 := h7.le hle9
  have c3 := c3.le hle9
  have hl := hl.le hle9
  have d9 := cells_at (vs := r.1.cs a7 c7) hk9 rfl
  clear htc h7 ht9 hk9 hk8 hle8 hle9 hle7
  repeat (first | refine cg_seq ?_ | refine cg_region ?_ | refine rg_nil ?_ | refine eg_then ?_ | refine qsp ?_)
  refine cg_cond rfl (fun hz => ?_) (fun hz => ?_)
  · have hz : r.2 ≠ 0 := by simpa using hz
    have hn := hno hz
    have s3 := (Group.parts d9).2.2.2
    have z0 : r.1.l.length = 0 := by rw [hn]; rfl
    repeat (first | refine cg_seq ?_ | refine cg_region ?_ | refine rg_nil ?_ | refine eg_then ?_ | refine qsp ?_ | refine qsn ?_ | refine qsl ?_ | refine qsf ?_ | refine cg_ret ?_ | refine eg_then_ret ?_)
    rw [show ((r.1.l.length : Int) == 0) = true by rw [z0]; rfl]
    skip
    exact eg_return rfl rfl rfl
  have hz : r.2 = 0 := by simpa using hz
  obtain ⟨x, e⟩ := r
  simp only at hz
  subst hz
  obtain ⟨hgc, htn, htm, hxc, hhas, hlen, hagain, hsame, hround⟩ := hlaw hr
  have hxow : OwnB 4398046511104 x.l := hto
  have hxok : x.ok := hxc.ok
  have hxsm : SmallG x := smallG_of hxc hxow
  have htn' := htn
  have htm' := htm
  unfold timeOk at htn' htm'
  simp only [Bool.and_eq_true, decide_eq_true_eq] at htn' htm'
  have hfew := hgc.few
  repeat (first | refine cg_seq ?_ | refine cg_region ?_ | refine rg_nil ?_ | refine eg_then ?_ | refine qsp ?_ | refine cg_skip ?_ | refine cg_block ?_)
  refine cg_loop (fun (i : Nat) e k' => Le k9 k' ∧ i ≤ g.l.length ∧ e = [(1, .is (.int .i64 now)), (2, .is (.int .i64 most)), (3, .is (.pointer (some ⟨b3, 0, none⟩))), (7, .is (.bool true)), (8, .is (.pointer (some ⟨b8, 0, none⟩))), (10, .is (.int .i64 (((g.l.take i).filter (lateM now most)).length : Nat))), (11, .is (.int .i64 (i : Int)))])
    (fun i => g.l.length - i) 0 ⟨Le.refl _, Nat.zero_le _, rfl⟩ ⟨rfl, rfl, rfl, rfl, rfl, rfl, rfl, trivial⟩ ?_
  rintro i e k1 ⟨hle1, hi, rfl⟩
  have c3 := c3.le hle1
  have d9 := d9.le hle1
  have hl := hl.le hle1
  have h9 := h9.le hle1
  have p3 := (Group.parts c3).2.2.2
  have hcnt : ((g.l.take i).filter (lateM now most)).length ≤ g.l.length := Nat.le_trans (List.length_filter_le _ _) (by rw [List.length_take]; omega)
  repeat (first | refine cg_seq ?_ | refine cg_region ?_ | refine rg_nil ?_ | refine eg_then ?_ | refine qsp ?_ | refine qsn ?_ | refine qsl ?_ | refine qsf ?_)
  refine cg_cond rfl (fun h => ?_) (fun h => ?_)
  · have hlt : i < g.l.length := by simpa using h
    obtain ⟨bx, ox, cx, ea, ⟨a0, c0, a1, c1, rfl, _, _⟩, hcx⟩ := hl.el i g.l[i] (List.getElem?_eq_getElem hlt)
    subst ea
    have htk := List.take_succ_eq_append_getElem hlt
    have hmem := List.getElem_mem hlt
    obtain ⟨m, hm⟩ : ∃ m, g.l[i] = m := ⟨_, rfl⟩
    rw [hm] at hcx htk hmem
    have m0 := (Member.parts hcx).1
    have m5 := (Member.parts hcx).2.2.2.2.2
    have hff := refFind_ct h9 m.id
    have hmb := memOk_time ((right_all.1 hgc.right).1 m hmem)
    unfold timeOk at hmb
    simp only [Bool.and_eq_true, decide_eq_true_eq] at hmb
    have hlt2 : decide (m.beat < now - most) = lateM now most m := by unfold lateM; rw [decide_eq_decide]; omega
    have hhm := hhas m hmem
    have hhm' : hasId m.id (x, (0 : Int)).1.l = !lateM now most m := hhm
    repeat (first | refine cg_seq ?_ | refine cg_region ?_ | refine rg_nil ?_ | refine eg_then ?_ | refine qsp ?_ | refine qss ?_ | refine qsi ?_ | refine qsl ?_ | refine qsf ?_ | refine cg_skip ?_ | refine cg_block ?_)
    rw [hlt2]
    skip
    refine cg_any (by kernel_rfl) rfl ?_
    repeat (first | refine qwp ?_ | refine qwi ?_ | refine qwl ?_ | refine qwg ?_ | refine qwf ?_)
    refine ws rfl (loc_call_is rfl rfl rfl rfl (hff)) ?_
    repeat (first | refine qwp ?_ | (refine wn rfl ?_; refine eg_then ?_))
    rw [idx_has, hhm']
    repeat (first | refine cg_seq ?_ | refine cg_region ?_ | refine qsp ?_)
    refine rs rfl rfl (loc_det rfl (d_eqb rfl rfl rfl)) ?_
    rw [show (lateM now most m == !lateM now most m) = false by cases lateM now most m <;> rfl]
    repeat (first | refine cg_seq ?_ | refine cg_region ?_ | refine rg_nil ?_ | refine eg_then ?_ | refine qsp ?_ | refine cg_cond_false rfl ?_ | refine cg_skip ?_)
    cases q3 : lateM now most m
    · repeat (first | refine cg_region ?_ | refine rg_nil ?_ | refine eg_then ?_ | refine qsp ?_ | refine qsa ?_ | refine cg_cond_false rfl ?_ | refine cg_skip ?_ | refine eg_in_normal ?_)
      refine eg_again (i + 1) _ ⟨hle1, hlt, rfl⟩ (by omega) ⟨rfl, rfl, rfl, rfl, rfl, ?_, rfl, trivial⟩
      rw [htk, List.filter_append]
      simp [q3]
      rfl
    · repeat (first | refine cg_region ?_ | refine rg_nil ?_ | refine eg_then ?_ | refine qsp ?_ | refine qsa ?_ | refine cg_cond_true rfl ?_ | refine eg_in_normal ?_)
      refine eg_again (i + 1) _ ⟨hle1, hlt, rfl⟩ (by omega) ⟨rfl, rfl, rfl, rfl, rfl, ?_, rfl, trivial⟩
      rw [htk, List.filter_append]
      simp [q3]
      rfl
  have hie : i = g.l.length := by simp at h; omega
  rw [hie, List.take_length] at hcnt ⊢
  have htc2 := tick_ct h9 hxok hxsm now most
  rw [hagain] at htc2
  generalize hN : (g.l.filter (lateM now most)).length = gone at hcnt hlen hsame hround ⊢
  have d9' := d9
  clear p3
  repeat (first | refine cg_seq ?_ | refine cg_region ?_ | refine eg_then ?_ | refine qsp ?_ | refine qsg ?_ | refine cg_exit ?_ | refine eg_then_exit ?_ | refine eg_in_exit ?_)
  refine rv rfl rfl rfl (loc_call rfl rfl rfl rfl GrpV.mono htc2) ?_
  rintro k2 hle2 _ ⟨a12, c12, rfl, h12⟩
  have c3 := c3.le hle2
  have hl := hl.le hle2
  have d9 := d9.le hle2
  have h9 := h9.le hle2
  repeat (first | refine qsp ?_)
  refine rb rfl rfl rfl rfl (a_alloc rfl) ?_; intro b14 k14 hb14 hN14 hle14 hk14
  refine rw1 (vs := x.cs a12 c12) rfl rfl rfl rfl rfl rfl rfl hk14 rfl (.inl hN14) (by simp [Group.cs, Value.oneCell']) ?_
  intro k15 ht15 hk15
  have hle15 := ht15 k2 hle14 hb14
  have c3 := c3.le hle15
  have hl := hl.le hle15
  have d9 := d9.le hle15
  have h9 := h9.le hle15
  have h12 : Sl tMember k15 a12 c12 x.l := h12.le hle15
  have d14 := cells_at (vs := x.cs a12 c12) hk15 rfl
  have s1 := sameG_ct (g := x) (g' := x) h9 h12
  have s2 := sameG_ct (g := x) (g' := g) h9 hl
  have s3 := check_ct (g := x) h9 hxok
  rw [show decide (x = x) = true by simp] at s1
  rw [chk_of hxc] at s3
  clear d9' ht15 hk15 hk14 hle14 hle15 hle2 htc2
  repeat (first | refine cg_seq ?_ | refine cg_region ?_ | refine rg_nil ?_ | refine eg_then ?_ | refine qsp ?_ | refine qsg ?_)
  refine rs rfl rfl (loc_call_is rfl rfl rfl rfl (s1)) ?_
  repeat (first | refine cg_seq ?_ | refine cg_region ?_ | refine rg_nil ?_ | refine eg_then ?_ | refine qsp ?_ | refine qsg ?_)
  refine rs rfl rfl (loc_call_is rfl rfl rfl rfl (s2)) ?_
  have q3 := (Group.parts c3).2.2.2
  have q2 := (Group.parts c3).2.2.1
  have q1' := (Group.parts c3).2.1
  have r3 := (Group.parts d9).2.2.2
  have r2 := (Group.parts d9).2.2.1
  have r1 := (Group.parts d9).2.1
  have hgen : 0 ≤ g.gen ∧ g.gen ≤ 1048576 := ⟨hgc.gen0, hgc.gen1⟩
  have z1 : ((x.l.length : Int) == (g.l.length : Int) - (gone : Int)) = true := by simp; omega
  repeat (first | refine cg_seq ?_ | refine cg_region ?_ | refine rg_nil ?_ | refine eg_then ?_ | refine qsp ?_ | refine qsn ?_ | refine qss ?_ | refine qsl ?_ | refine qsf ?_)
  rw [z1]
  repeat (first | refine qsp ?_)
  by_cases h0 : gone = 0
  · rw [show decide ((gone : Int) > 0) = false by simp [h0], show decide (x = g) = true by simp [hsame h0]]
    repeat (first | refine qsp ?_)
    rw [show ((gone : Int) == 0) = true by simp [h0]]
    repeat (first | refine qsp ?_ | refine qsg ?_ | refine qso ?_)
    refine rs rfl rfl (loc_call_is rfl rfl rfl rfl (s3)) ?_
    repeat (first | refine rg_nil ?_ | refine eg_then ?_ | refine qsp ?_ | refine cg_ret ?_)
    exact eg_return rfl rfl rfl
  rw [show decide ((gone : Int) > 0) = true by simp; omega]
  repeat (first | refine qsp ?_ | refine qso ?_)
  rw [show ((gone : Int) == 0) = false by simp; omega]
  repeat (first | refine qsp ?_ | refine qsn ?_ | refine qsl ?_ | refine qsf ?_)
  by_cases h1 : x.l.length = 0
  · rw [show ((x.l.length : Int) == 0) = true by rw [h1]; rfl]
    repeat (first | refine qsp ?_ | refine qsg ?_ | refine qso ?_)
    refine rs rfl rfl (loc_call_is rfl rfl rfl rfl (s3)) ?_
    repeat (first | refine rg_nil ?_ | refine eg_then ?_ | refine qsp ?_ | refine cg_ret ?_)
    exact eg_return rfl rfl rfl
  rw [show ((x.l.length : Int) == 0) = false by rw [beq_eq_false_iff_ne]; omega]
  repeat (first | refine qsp ?_ | refine qsl ?_ | refine qsf ?_)
  by_cases h2 : g.state = 2
  · obtain ⟨y1, y2⟩ := hround h0 (by omega) h2
    rw [show (g.state != 2) = false by simp [h2]]
    repeat (first | refine qsp ?_ | refine qsa ?_ | refine qsl ?_ | refine qsf ?_)
    rw [show (x.gen == g.gen + 1) = true by simp [y1]]
    repeat (first | refine qsp ?_ | refine qsl ?_ | refine qsf ?_)
    rw [show (x.state == 1) = true by simp [y2]]
    repeat (first | refine qsg ?_)
    refine rs rfl rfl (loc_call_is rfl rfl rfl rfl (s3)) ?_
    repeat (first | refine rg_nil ?_ | refine eg_then ?_ | refine qsp ?_ | refine cg_ret ?_)
    exact eg_return rfl rfl rfl
  rw [show (g.state != 2) = true by simp [h2]]
  repeat (first | refine qsp ?_ | refine qsg ?_ | refine qso ?_)
  refine rs rfl rfl (loc_call_is rfl rfl rfl rfl (s3)) ?_
  repeat (first | refine rg_nil ?_ | refine eg_then ?_ | refine qsp ?_ | refine cg_ret ?_)
  exact eg_return rfl rfl rfl
end Go.Wm
namespace Go.Wm
open Go.RowKit Go.Proofs
theorem mayEnter_ok : Try.prog.mayEnter = true := by kernel_rfl
end Go.Wm
namespace Go.Wm
open Go.RowKit Go.Proofs
theorem liftsFinal_nil : Try.prog.liftsFinal = false := by kernel_rfl
end Go.Wm
namespace Go.Wm
open Go.RowKit Go.Proofs
theorem make_eq : Try.prog.make = some (({ program := "", sum := "", func := "", spec := "" } : OpenClaim).make) := by kernel_rfl
end Go.Wm

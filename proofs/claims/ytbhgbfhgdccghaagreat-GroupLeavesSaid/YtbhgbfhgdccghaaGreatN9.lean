/-
  Beat, the program's. Conditions: that what is handed in reads as data.
-/
import Derived.Test.YtbhgbfhgdccghaaGreatN8
set_option linter.all false
namespace Go.Wm
open Go.RowKit Go.Proofs
def beatE (g : Group) (id : ByteArray) (gen now : Int) (i : Nat) : Int := wantE (wantE (wantE (wantE (chkG g) (timeOk now) 1) (metAt id g.l i || !true) 230) (metAt id g.l i && ((g.l[i]?).map (·.joined)).getD false) 232) (decide (gen = g.gen)) 231
theorem wantE_cases (e : Int) (b : Bool) (er : Int) (he : er ≠ 0) : (wantE e b er = 0 ↔ e = 0 ∧ b = true) := by
  unfold wantE
  cases b
  · by_cases h : e = 0 <;> simp [h, he]
  · simp
theorem beat_told {g : Group} {id : ByteArray} {gen now : Int} {i : Nat} (hf : FindAt id g.l i) : (beatE g id gen now i ≠ 0 → beatG g id gen now = (noG, beatE g id gen now i)) ∧ (beatE g id gen now i = 0 → ∃ m, g.l[i]? = some m ∧ toldG { g with l := g.l.set i (setBeat now m) } 0 = beatG g id gen now) := by
  unfold beatE beatG
  by_cases h : chkG g = 0
  · have hr := chk_right h
    have hc := chk_all h
    rw [hf.pos hr, met_has hr, h]
    cases h2 : timeOk now
    · simp [wantE]
    cases h3 : hasId id g.l
    · simp [wantE]
    obtain ⟨was, hw, hid⟩ := has_at hr h3
    rw [hw]
    cases h4 : was.joined
    · simp [wantE, h4]
    by_cases h5 : gen = g.gen
    · refine ⟨fun hn => absurd (by simp [wantE, h4, h5]) hn, fun _ => ⟨was, rfl, ?_⟩⟩
      simp only [toldG, h4, h5]
      simp only [ne_eq, not_true_eq_false, if_false, Option.map_some, h4]
      rw [setAt_at hw, stateG_set (m' := setBeat now was) hw rfl, ← hc.state]
      simp
    · simp [wantE, h4, h5]
  · rw [wantE_ne h, wantE_ne h, wantE_ne h, wantE_ne h, if_pos h]
    exact ⟨fun _ => rfl, fun hz => absurd hz h⟩
theorem le_one {k k' : PH} {M : Nat → Prop} (H : ∀ h, Le h k → (∀ b, M b → h b = none) → Le h k') {b : Nat} {o : Obj} (hb : k b = some o) (hn : ¬ M b) : k' b = some o :=
  H (fun x => if x = b then some o else none) (fun x ob hx => by
    by_cases e : x = b
    · subst e; simp at hx; rw [← hx]; exact hb
    · simp [e] at hx) (fun x hx => by
    by_cases e : x = b
    · subst e; exact absurd hx hn
    · simp [e]) b o (by simp)
attribute [local irreducible] RG CG EG WA Loc Det Alc CT Exit.then Exit.inBlock Code.wp bodyPost
set_option maxHeartbeats 2000000 in
theorem beat_ct {k : PH} {g : Group} {a : Option Addr} {c : Nat} (hl : Sl tMember k a c g.l) (hok : g.ok) (hsm : SmallG g) (id : ByteArray) (gen now : Int) (hI : I64 now) : CT Tryz.prog 9 #[.agg (g.cs a c).toArray, .string id, .int .i64 gen, .int .i64 now] k (GrpV (beatG g id gen now)) := by
  refine ct_of_body (l := [_, _, _, _]) Tryz.func9 rfl Tryz.ntmps9 (by simp) GrpV.mono fun F hF0 hFm => ?_
  have hb : g.l.length ≤ 1000000000000000 := by have := hsm.1; omega
  repeat (first | refine cg_seq ?_ | refine cg_region ?_)
  refine rb rfl rfl rfl rfl (a_box rfl rfl) ?_; intro b1 k1 hb1 hN1 hle1 hk1
  skip
  refine rb rfl rfl rfl rfl (a_alloc rfl) ?_; intro b2 k2 hb2 hN2 hle2 hk2
  have hl := hl.le hle1
  have cg1 := (cells_at (vs := g.cs a c) hk1 rfl).le hle2
  repeat (first | refine cg_seq ?_ | refine cg_region ?_ | refine rg_nil ?_ | refine eg_then ?_ | refine qsp ?_ | refine qsg ?_)
  refine rvnh rfl rfl rfl rfl rfl rfl rfl hle2 (keep_ctn hl hok hsm) ?_
  rintro N k0 k3 _ hN3 hnew _ hold hle3 hle03 ⟨bk, KK, v, rfl, h3⟩
  have hK2 : KK b2 = none := by
    cases hc : KK b2 with
    | none => rfl
    | some ob => have := h3.le _ _ hc; rw [hold b2 _ hk2, hb2] at this; cases this
  have h3 := h3.up hle03
  have hbn : F.w0.heap.size ≤ bk := Nat.le_trans hN3 h3.nb
  have om : ∀ b, b = bk → F.w0.heap.size ≤ b ∨ F.mu b := fun b hb => .inl (by rw [hb]; exact hbn)
  have n2 : ¬ b2 = bk := fun e => by have := hnew bk h3.nb; rw [← e, hk2] at this; cases this
  have r3 := hle3 _ _ hk2
  repeat (first | refine cg_seq ?_ | refine cg_region ?_ | refine rg_nil ?_ | refine eg_then ?_ | refine qsp ?_)
  refine rs rfl rfl (loc_call_is rfl rfl rfl rfl (time_ct now)) ?_
  refine rcm rfl rfl rfl rfl rfl rfl rfl (want_ctm h3 (timeOk now) 1) om ?_
  rintro _ k4 hle4 ⟨rfl, h4⟩
  have r4 := le_one hle4 r3 n2
  repeat (first | refine cg_seq ?_ | refine cg_region ?_ | refine rg_nil ?_ | refine eg_then ?_ | refine qsp ?_)
  refine rcm rfl rfl rfl rfl rfl rfl rfl (find_ctm h4 hb id true) om ?_
  rintro _ k5 hle5 ⟨i, rfl, hfa, h5⟩
  have r5 := le_one hle5 r4 n2
  have hbt := beat_told (gen := gen) (now := now) hfa
  unfold beatE at hbt
  clear hle3 hle4 hle5 r3 r4 h3 h4 hk2 hle2 hle1 cg1 hk1 hl
  generalize wantE (wantE (chkG g) (timeOk now) 1) (metAt id g.l i || !true) 230 = e5 at h5 hbt
  obtain ⟨a5, c5, rfl, hsl5⟩ := h5.sl
  have ck := (cells_at (vs := kCells g (.slice a5 g.l.length c5) e5) h5.at' rfl).one (i := 3) rfl
  have bl := hsl5.cap; have bm := hsl5.max; unfold maxLen at bm
  obtain ⟨jn, hjn⟩ : ∃ jn, (metAt id g.l i && ((g.l[i]?).map (·.joined)).getD false) = jn := ⟨_, rfl⟩
  rw [hjn] at hbt
  repeat (first | refine cg_seq ?_ | refine cg_region ?_ | refine rg_nil ?_ | refine eg_then ?_ | refine qsp ?_)
  apply meetR (k := k5) [(25, .is (.pointer (some ⟨bk, 0, none⟩))), (37, .is (.bool jn)), (10, .is (.pointer (some ⟨bk, 0, none⟩))), (11, .is (.int .i64 (i : Int))), (2, .is (.int .i64 gen)), (3, .is (.int .i64 now)), (8, .is (.pointer (some ⟨b2, 0, none⟩)))] True
  · intro go
    cases q : metAt id g.l i
    · rw [q] at hjn
      repeat (first | refine qsp ?_ | refine qso ?_)
      exact go _ trivial ⟨rfl, by rw [← hjn]; rfl, rfl, rfl, rfl, rfl, rfl, trivial⟩
    · rw [q] at hjn
      have hlt : i < g.l.length := by
        unfold metAt at q
        have q := of_decide_eq_true q
        apply Classical.byContradiction
        intro hn
        rw [List.getElem?_eq_none (by omega)] at q; cases q
      obtain ⟨bx, ox, cx, ea, ⟨a0, c0, a1, c1, rfl, ⟨hsub, hown⟩, hmok⟩, hcx⟩ := hsl5.el i g.l[i] (List.getElem?_eq_getElem hlt)
      subst ea
      rw [List.getElem?_eq_getElem hlt] at hjn
      obtain ⟨m, hm⟩ : ∃ m, g.l[i] = m := ⟨_, rfl⟩
      rw [hm] at hjn hcx hsub hown hmok
      have hjn : m.joined = jn := hjn
      obtain ⟨p0, p1, p2, p3, p4, p5⟩ := Member.parts hcx
      repeat (first | refine qsp ?_ | refine qsi ?_ | refine qsl ?_ | refine qsf ?_)
      exact go _ trivial ⟨rfl, by rw [← hjn]; rfl, rfl, rfl, rfl, rfl, rfl, trivial⟩
  rintro -
  skip
  refine rcm rfl rfl rfl rfl rfl rfl rfl (want_ctm h5 jn 232) om ?_
  rintro _ k6 hle6 ⟨rfl, h6⟩
  have r6 := le_one hle6 r5 n2
  have c1 := (cells_at (vs := kCells g (.slice a5 g.l.length c5) (wantE e5 jn 232)) h6.at' rfl).one (i := 1) rfl
  repeat (first | refine cg_seq ?_ | refine cg_region ?_ | refine rg_nil ?_ | refine eg_then ?_ | refine qsp ?_ | refine qsl ?_ | refine qsf ?_)
  refine rcm rfl rfl rfl rfl rfl rfl rfl (want_ctm h6 (decide (gen = g.gen)) 231) om ?_
  rintro _ k7 hle7 ⟨rfl, h7⟩
  have r7 := le_one hle7 r6 n2
  clear c1 h6 r6 hle6 hle7 r5 h5 ck hsl5
  generalize wantE (wantE e5 jn 232) (decide (gen = g.gen)) 231 = e7 at h7 hbt
  have c4 := (cells_at (vs := kCells g (.slice a5 g.l.length c5) e7) h7.at' rfl).one (i := 4) rfl
  repeat (first | refine cg_seq ?_ | refine cg_region ?_ | refine rg_nil ?_ | refine eg_then ?_ | refine qsp ?_ | refine qsl ?_ | refine qsf ?_)
  refine cg_cond rfl (fun hz => ?_) (fun hz => ?_)
  · have hz : e7 = 0 := by simpa using hz
    obtain ⟨m, hm, hto⟩ := hbt.2 hz
    obtain ⟨hlt', hme⟩ := List.getElem?_eq_some_iff.1 hm
    obtain ⟨css, u1, u2, u3⟩ := h7.row
    have hcl : css.length = g.l.length := u1.1
    have hcs := List.getElem?_eq_getElem (show i < css.length by omega)
    obtain ⟨a0, c0, a1, c1, hce, hsl4, hmok⟩ := u1.2 i _ _ hcs hm
    rw [hce] at hcs
    obtain ⟨gb, cap, cur, hve, hgN, hkg, hglt, hcg, hset⟩ := Row.cell (i := i) (j := 5) (cs := m.cs a0 c0 a1 c1) u2 (fun y hy => u1.len y hy) hcs (by omega)
    cases hve
    have hne : gb ≠ bk := fun e => by rw [e, h7.at'] at hkg; cases hkg
    have hng : b2 ≠ gb := fun e => by rw [← e, r7] at hkg; cases hkg
    have hKg : KK gb = none := h7.ap gb rfl
    have ck := (cells_at (vs := kCells g (.slice (some ⟨gb, 0, none⟩) g.l.length c5) e7) h7.at' rfl).one (i := 3) rfl
    repeat (first | refine cg_region ?_ | refine qsp ?_ | refine qsi ?_ | refine qsl ?_ | refine qsf ?_)
    refine rw0 rfl rfl rfl rfl rfl rfl rfl rfl hkg (show 0 + i * 6 + 5 < cur.size by omega) (.inl (Nat.le_trans hN3 hgN)) ?_; intro k8 ht8 hk8
    have hrow8 := hset k8 (.int .i64 now) ht8 (by rw [hk8]; simp)
    have r8 := turn1_get ht8 (Ne.symm (Ne.symm hng)) r7
    have h8 : KeepAt N KK k8 bk (.slice (some ⟨gb, 0, none⟩) g.l.length c5) { g with l := g.l.set i (setBeat now m) } e7 := by
      refine ⟨turn1_get ht8 (Ne.symm hne) h7.at', h7.nb, ht8 KK h7.le hKg, h7.kb, h7.ap, css.set i ((m.cs a0 c0 a1 c1).set 5 (.int .i64 now)), u1.set i ⟨a0, c0, a1, c1, rfl, hsl4, hmok.1, hmok.2.1, hmok.2.2.1, hmok.2.2.2.1, hmok.2.2.2.2.1, ?_⟩, ?_, ?_⟩
      · exact hI
      · show Row N k8 44 6 _ (g.l.set i (setBeat now m)).length _
        rw [List.length_set]; exact hrow8
      · exact u3.set hcs hm (fun x => ⟨x.own, x.subs⟩) rfl
    rw [hz] at h8
    repeat (first | refine cg_seq ?_ | refine cg_region ?_ | refine rg_nil ?_ | refine eg_then ?_ | refine qsp ?_)
    refine rcm rfl rfl rfl rfl rfl rfl rfl (told_ctm h8.to0) om ?_
    rintro _ k9 hle9 ⟨a9, c9, css9, rfl, hp9, hr9⟩
    rw [hto] at hp9 hr9 ⊢
    have r9 := le_one hle9 r8 n2
    have hK9 := hle9 KK h8.le (fun b hb => by rw [hb]; exact h8.kb)
    repeat (first | refine qsp ?_)
    refine rw1 (vs := (beatG g id gen now).1.cs a9 c9) rfl rfl rfl rfl rfl rfl rfl r9 rfl (.inl hN2) (by simp [Group.cs, Value.oneCell']) ?_
    intro k10 ht10 hk10
    repeat (first | refine rg_nil ?_ | refine eg_then ?_ | refine qsp ?_ | refine cg_ret ?_)
    exact eg_returnC2 rfl rfl rfl rfl (cells_at (vs := (beatG g id gen now).1.cs a9 c9) hk10 rfl) rfl ⟨a9, c9, rfl, GrpR.sl hp9 (hr9.turnY ht10 r9 (by decide)) (ht10 KK hK9 hK2)⟩
  · have hz : e7 ≠ 0 := by simpa using hz
    have hto : toldG g e7 = beatG g id gen now := by rw [toldG_ne hz, hbt.1 hz]
    repeat (first | refine cg_seq ?_ | refine cg_region ?_ | refine eg_then ?_ | refine qsp ?_ | refine cg_skip ?_)
    refine rcm rfl rfl rfl rfl rfl rfl rfl (told_ctm h7.to0) om ?_
    rintro _ k9 hle9 ⟨a9, c9, css9, rfl, hp9, hr9⟩
    rw [hto] at hp9 hr9 ⊢
    have r9 := le_one hle9 r7 n2
    have hK9 := hle9 KK h7.le (fun b hb => by rw [hb]; exact h7.kb)
    repeat (first | refine qsp ?_)
    refine rw1 (vs := (beatG g id gen now).1.cs a9 c9) rfl rfl rfl rfl rfl rfl rfl r9 rfl (.inl hN2) (by simp [Group.cs, Value.oneCell']) ?_
    intro k10 ht10 hk10
    repeat (first | refine rg_nil ?_ | refine eg_then ?_ | refine qsp ?_ | refine cg_ret ?_)
    exact eg_returnC2 rfl rfl rfl rfl (cells_at (vs := (beatG g id gen now).1.cs a9 c9) hk10 rfl) rfl ⟨a9, c9, rfl, GrpR.sl hp9 (hr9.turnY ht10 r9 (by decide)) (ht10 KK hK9 hK2)⟩
end Go.Wm

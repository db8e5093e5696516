/-
  Join, the program's. Conditions: that what is handed in reads as data.
-/
import Derived.Test.YtbhgbfhgdccghaaGreatN10
import Derived.Test.YtbhgbfhgdccghaaGreatK6
set_option linter.all false
namespace Go.Wm
open Go.RowKit Go.Proofs
theorem KeepAt.turnM {N : Nat} {KK k k' : PH} {bk b : Nat} {v : Value} {g : Group} {e : Int} {c : Array Value} {et : TypeId} {fr : Nat × Nat} (h : KeepAt N KK k bk v g e) (ht : Turn1 k k' b) (hn : ¬ b = bk) (hK : KK b = none) (hb : k b = some (.cells c et fr)) (h1 : v.ownBlock ≠ some b) (h2 : 53 ≠ et) (h3 : 9 ≠ et) : KeepAt N KK k' bk v g e := by
  obtain ⟨css, u1, u2, u3⟩ := h.row
  exact ⟨turn1_get ht (Ne.symm hn) h.at', h.nb, ht KK h.le hK, h.kb, h.ap, css, u1, u2.at (fun g hg => by
    obtain ⟨_, ob, hob⟩ := u2.block hg
    rw [hob]
    exact turn1_get ht (fun e => h1 (by rw [← e]; exact hg)) hob), u3⟩
theorem KeepAt.delB {N : Nat} {KK k : PH} {bk b : Nat} {v : Value} {g : Group} {e : Int} {c : Array Value} {et : TypeId} {fr : Nat × Nat} (h : KeepAt N KK k bk v g e) (hn : ¬ b = bk) (hK : KK b = none) (hb : k b = some (.cells c et fr)) (h1 : v.ownBlock ≠ some b) (h2 : 53 ≠ et) (h3 : 9 ≠ et) : KeepAt N KK (Wm.delB k b) bk v g e := by
  obtain ⟨css, u1, u2, u3⟩ := h.row
  have hg : ∀ g, g ≠ b → Wm.delB k b g = k g := fun g hg => by unfold Wm.delB; rw [if_neg hg]
  exact ⟨(hg bk (fun e => hn e.symm)).trans h.at', h.nb, le_delB h.le hK, h.kb, h.ap, css, u1, u2.at (fun g hv => hg g fun e => h1 (by rw [← e]; exact hv)),
    u3⟩
theorem KeepAt.N_le {N N' : Nat} {KK k : PH} {bk : Nat} {v : Value} {g : Group} {e : Int} (h : KeepAt N KK k bk v g e) (hN : N' ≤ N) : KeepAt N' KK k bk v g e := by
  obtain ⟨css, u1, u2, u3⟩ := h.row
  exact ⟨h.at', Nat.le_trans hN h.nb, h.le, h.kb, h.ap, css, u1, u2.N_le hN, ⟨fun i cs m e1 e2 => ⟨(u3.rows i cs m e1 e2).own.N_le hN, (u3.rows i cs m e1 e2).subs.N_le hN⟩, u3.ne⟩⟩
theorem Row.keep {N et sz m : Nat} {k k' : PH} {v : Value} {xs : List Value} {M : Nat → Prop} (h : Row N k et sz v m xs) (H : ∀ h, Le h k → (∀ b, M b → h b = none) → Le h k') (hn : ∀ b c fr, M b → k b ≠ some (.cells c et fr)) : Row N k' et sz v m xs := h.at fun g hg => by
  rcases h.own with ⟨e, _⟩ | ⟨g', cap, cur, e, _, hk, _⟩
  · rw [e] at hg; simp [Value.ownBlock] at hg
  · rw [e] at hg; simp [Value.ownBlock] at hg; subst hg
    rw [hk, le_one H hk fun hM => hn g' _ _ hM hk]
theorem MemRow.keep {N : Nat} {k k' : PH} {cs : List Value} {m : Member} {M : Nat → Prop} (h : MemRow N k cs m) (H : ∀ h, Le h k → (∀ b, M b → h b = none) → Le h k') (hn : ∀ b c et fr, M b → k b = some (.cells c et fr) → et ≠ 53 ∧ et ≠ 9) : MemRow N k' cs m := ⟨h.own.keep H fun b c fr hM hk => (hn b c _ fr hM hk).1 rfl, h.subs.keep H fun b c fr hM hk => (hn b c _ fr hM hk).2 rfl⟩
theorem Row.typ {N et sz m : Nat} {k : PH} {v : Value} {xs : List Value} (h : Row N k et sz v m xs) {g : Nat} (hg : v.ownBlock = some g) : ∃ c, k g = some (.cells c et (0, 0)) := by
  rcases h.own with ⟨e, _⟩ | ⟨g', cap, cur, e, _, hk, _⟩
  · rw [e] at hg; simp [Value.ownBlock] at hg
  · rw [e] at hg; simp [Value.ownBlock] at hg; subst hg
    exact ⟨cur, hk⟩
theorem cut_ok {N : Nat} {k : PH} {css : List (List Value)} {l : List Member} (h : OwnsAt N k css l) (hl : css.length = l.length) {p : Nat → Prop} {wv : Value} (hw : ∀ cs ∈ css, ∀ g, (cs.getD 3 undef).ownBlock = some g → wv.ownBlock ≠ some g) (hwt : ∀ g, wv.ownBlock = some g → ∃ c fr, k g = some (.cells c 53 fr)) (hp : ∀ b, p b → (∃ c et fr, k b = some (.cells c et fr) ∧ et ≠ 53 ∧ et ≠ 9) ∨ wv.ownBlock = some b) : ∀ cs ∈ css, ∀ g, (cs.getD 3 undef).ownBlock = some g ∨ (cs.getD 2 undef).ownBlock = some g → ¬ p g := by
  intro cs hc g hg hpg
  obtain ⟨c, et, fr, hk, het⟩ := h.typ hl hc hg
  rcases hp g hpg with ⟨c', et', fr', hk', h1, h2⟩ | hwg
  · rw [hk] at hk'; cases hk'
    rcases het with e | e
    · exact h1 e
    · exact h2 e
  · rcases hg with hg | hg
    · exact hw cs hc g hg hwg
    · obtain ⟨c2, fr2, hk2⟩ := hwt g hwg
      obtain ⟨i, hi, rfl⟩ := List.getElem_of_mem hc
      obtain ⟨c3, hk3⟩ := (h.rows i _ _ (List.getElem?_eq_getElem hi) (List.getElem?_eq_getElem (by omega))).subs.typ hg
      rw [hk2] at hk3; simp at hk3
theorem right_unjoin {l : List Member} (h : RightP ordId memOk l) : RightP ordId memOk (l.map unjoin) := by
  obtain ⟨h1, h2⟩ := right_all.1 h
  exact right_all.2 ⟨fun x hx => by
    obtain ⟨y, hy, rfl⟩ := List.mem_map.1 hx
    rw [memOk_unjoin]; exact h1 y hy, List.pairwise_map.2 h2⟩
theorem pieces_map {α : Type} {T : Ty α} {f : α → List Value} (hf : ∀ k cs x, T.rep k cs x → cs = f x) {k : PH} {css : List (List Value)} {l : List α} (h : Pieces T k css l) : css = l.map f := by
  apply List.ext_getElem?
  intro i
  rw [List.getElem?_map]
  cases h3 : css[i]? with
  | none =>
    have : css.length ≤ i := List.getElem?_eq_none_iff.1 h3
    rw [List.getElem?_eq_none (by rw [← h.1]; exact this)]; rfl
  | some cs =>
    have hi : i < l.length := by rw [← h.1]; exact (List.getElem?_eq_some_iff.1 h3).1
    rw [List.getElem?_eq_getElem hi, hf _ _ _ (h.2 i cs _ h3 (List.getElem?_eq_getElem hi))]; rfl
theorem ownNe_del {css : List (List Value)} {i : Nat} {cw : List Value} (h : css.Pairwise ownNe) (hi : css[i]? = some cw) : ∀ cs ∈ css.take i ++ css.drop (i + 1), ownNe cs cw := by
  intro cs hc
  obtain ⟨hlt, rfl⟩ := List.getElem?_eq_some_iff.1 hi
  have hp := List.pairwise_iff_getElem.1 h
  rcases List.mem_append.1 hc with hc | hc
  · obtain ⟨j, hj, rfl⟩ := List.mem_take_iff_getElem.1 hc
    exact hp j i (by omega) hlt (by omega)
  · obtain ⟨j, hj, rfl⟩ := List.mem_drop_iff_getElem.1 hc
    exact (hp i (i + 1 + j) hlt (by omega) (by omega)).symm
theorem del_clen {css : List (List Value)} {l : List Member} (h : css.length = l.length) (i : Nat) : (css.take i ++ css.drop (i + 1)).length = (delM i l).length := by
  unfold delM
  rw [List.length_append, List.length_append, List.length_take, List.length_take, List.length_drop, List.length_drop, h]
theorem upd_le {h k : PH} {b : Nat} {o : Obj} (hl : Le h k) (hb : k b = some o) : Le (upd h b o) k := fun c ob hc => by
  by_cases e : c = b
  · subst e; rw [upd_same] at hc; cases hc; exact hb
  · rw [upd_other e] at hc; exact hl c ob hc
/-- Where the ways of Join meet. -/
structure JMeet (N b4 b6 bk : Nat) (g : Group) (m : Member) (now : Int) (k : PH) (bg : Bool) (l : List Member) (v : Value) (e : Int) (cs : List Value) (x : Member) (KK : PH) : Prop where
  keep : KeepAt N KK k bk v { g with l := l } e
  k4 : KK b4 = none
  k6 : KK b6 = none
  nv4 : v.ownBlock ≠ some b4
  m4 : k b4 = some (.cells cs.toArray 44 (0, 0))
  row : MemRow N k cs x
  rep : ∃ h0, tMember.rep h0 cs x
  m6 : ∃ c, k b6 = some (.cells c 24 (0, 0)) ∧ c.size = 4
  id : x.id = m.id
  right : RightP ordId memOk l
  few : l.length ≤ 64
  fin : finW { g with l := l } x bg e = joinG g m now
attribute [local irreducible] RG CG EG WA Loc Det Alc CT Exit.then Exit.inBlock Code.wp bodyPost
set_option maxHeartbeats 8000000 in
theorem join_ct {k : PH} {g : Group} {a : Option Addr} {c : Nat} (hl : Sl tMember k a c g.l) (hok : g.ok) (hsm : SmallG g) {m : Member} {ma mo : Option Addr} {mc mp : Nat} (hsub : Sl tStr k ma mc m.subs) (hown : Sl tTp k mo mp m.own) (hmok : m.ok) (hm1 : m.subs.length * 16 ≤ 140737488355328) (hm2 : m.own.length * 32 ≤ 140737488355328) (now : Int) (hI : I64 now) :
    CT Tryz.prog 20 #[.agg (g.cs a c).toArray, .agg (m.cs ma mc mo mp).toArray, .int .i64 now] k (GrpV (joinG g m now)) := by
  refine ct_of_body (l := [_, _, _]) Tryz.func20 rfl Tryz.ntmps20 (by simp) GrpV.mono fun F hF0 hFm => ?_
  have hb : g.l.length ≤ 1000000000000000 := by have := hsm.1; omega
  repeat (first | refine cg_seq ?_ | refine cg_region ?_)
  refine rb rfl rfl rfl rfl (a_box rfl rfl) ?_; intro b3 k3 hb3 hN3 hle3 hk3
  skip
  refine rb rfl rfl rfl rfl (a_box rfl rfl) ?_; intro b4 k4 hb4 hN4 hle4 hk4
  skip
  refine rb rfl rfl rfl rfl (a_alloc rfl) ?_; intro b6 k6 hb6 hN6 hle6 hk6
  have cg := (cells_at (vs := g.cs a c) hk3 rfl).le (hle4.trans hle6)
  have hkk : Le k k6 := hle3.trans (hle4.trans hle6)
  have hk46 : k6 b4 = _ := hle6 _ _ hk4
  have kb4 : k b4 = none := by
    cases hc : k b4 with
    | none => rfl
    | some o => have := hle3 _ _ hc; rw [hb4] at this; cases this
  have kb6 : k b6 = none := by
    cases hc : k b6 with
    | none => rfl
    | some o => have := hle4 _ _ (hle3 _ _ hc); rw [hb6] at this; cases this
  have n46 : b4 ≠ b6 := fun e => by rw [← e, hk4] at hb6; cases hb6
  repeat (first | refine cg_seq ?_ | refine cg_region ?_ | refine rg_nil ?_ | refine eg_then ?_ | refine qsp ?_ | refine qsg ?_)
  refine rvnh rfl rfl rfl rfl rfl rfl rfl hkk (keep_ctn hl hok hsm) ?_
  rintro N k0 k7 _ hN7 hnew _ hold hle7 hle07 ⟨bk, KK, v, rfl, h7⟩
  have hK4 : KK b4 = none := by
    cases hc : KK b4 with
    | none => rfl
    | some ob => have := h7.le _ _ hc; rw [hold b4 _ hk46, kb4] at this; cases this
  have hK6 : KK b6 = none := by
    cases hc : KK b6 with
    | none => rfl
    | some ob => have := h7.le _ _ hc; rw [hold b6 _ hk6, kb6] at this; cases this
  have h7 := h7.up hle07
  have hbn : F.w0.heap.size ≤ bk := Nat.le_trans hN7 h7.nb
  have om : ∀ b, b = bk → F.w0.heap.size ≤ b ∨ F.mu b := fun b hb => .inl (by rw [hb]; exact hbn)
  have n4 : ¬ b4 = bk := fun e => by have := hnew bk h7.nb; rw [← e, hk46] at this; cases this
  have n6 : ¬ b6 = bk := fun e => by have := hnew bk h7.nb; rw [← e, hk6] at this; cases this
  have hkk7 : Le k k7 := hkk.trans hle7
  have r4 := hle7 _ _ hk46
  have r6 := hle7 _ _ hk6
  have vge : ∀ b, v.ownBlock = some b → k6 b = none := fun b hv => by
    obtain ⟨css, _, u2, _⟩ := h7.row
    exact hnew b (u2.block hv).1
  have nv4 : v.ownBlock ≠ some b4 := fun e => by rw [vge _ e] at hk46; cases hk46
  have nv6 : v.ownBlock ≠ some b6 := fun e => by rw [vge _ e] at hk6; cases hk6
  have hb7 : k bk = none := by
    cases hc : k bk with
    | none => rfl
    | some o => have := hkk _ _ hc; rw [hnew bk h7.nb] at this; cases this
  clear hle7 hold hle07 hkk hk46 hk6 hk4 hk3 cg hle3 hle4 hle6
  repeat (first | refine cg_seq ?_ | refine cg_region ?_ | refine rg_nil ?_ | refine eg_then ?_ | refine qsp ?_ | refine qsf ?_)
  refine rw0 rfl rfl rfl rfl rfl rfl rfl rfl r4 (by show _ < 6; omega) (.inl hN4) ?_; intro k8 ht8 hk8
  have h8 := h7.turnM ht8 n4 hK4 r4 nv4 (by decide) (by decide)
  have r8 := turn1_get ht8 (Ne.symm n46) r6
  have hkk8 : Le k k8 := ht8 k hkk7 kb4
  repeat (first | refine qsf ?_)
  refine rw0 rfl rfl rfl rfl rfl rfl rfl rfl hk8 (by show _ < 6; omega) (.inl hN4) ?_; intro k9 ht9 hk9
  have h9 := h8.turnM ht9 n4 hK4 hk8 nv4 (by decide) (by decide)
  have r9 := turn1_get ht9 (Ne.symm n46) r8
  have hkk9 : Le k k9 := ht9 k hkk8 kb4
  have hk9 : k9 b4 = some (.cells ((joined m now).cs ma mc mo mp).toArray 44 (0, 0)) := hk9
  have hmok' : (joined m now).ok := ⟨hmok.1, hmok.2.1, hmok.2.2.1, hmok.2.2.2.1, hmok.2.2.2.2.1, hI⟩
  have hmrep : tMember.rep k9 ((joined m now).cs ma mc mo mp) (joined m now) := ⟨ma, mc, mo, mp, rfl, ⟨hsub.le hkk9, hown.le hkk9⟩, hmok'⟩
  have c4 := cells_at (vs := (joined m now).cs ma mc mo mp) hk9 rfl
  clear h7 h8 ht8 ht9 hk8 r4 r6 r8 hkk7 hkk8
  repeat (first | refine cg_seq ?_ | refine cg_region ?_ | refine rg_nil ?_ | refine eg_then ?_ | refine qsp ?_ | refine qsg ?_)
  refine rs rfl rfl (loc_call_is rfl rfl rfl rfl (member_ct hmrep)) ?_
  skip
  refine rcm rfl rfl rfl rfl rfl rfl rfl (want_ctm h9 (memOk (joined m now)) 1) om ?_
  rintro _ k10 hle10 ⟨rfl, h10⟩
  have r10 := le_one hle10 r9 n6
  have s10 := le_one hle10 hk9 n4
  have hkk10 : Le k k10 := hle10 k hkk9 fun b hb => by rw [hb]; exact hb7
  clear hle10 h9 r9 hk9 c4 hmrep hkk9
  have c44 := (cells_at (vs := kCells g v (wantE (chkG g) (memOk (joined m now)) 1)) h10.at' rfl).one (i := 4) rfl
  repeat (first | refine cg_seq ?_ | refine cg_region ?_ | refine rg_nil ?_ | refine eg_then ?_ | refine qsp ?_ | refine qsl ?_ | refine qsf ?_)
  refine cg_cond rfl (fun hz => ?_) (fun hz => ?_)
  · have hz : wantE (chkG g) (memOk (joined m now)) 1 ≠ 0 := by simpa using hz
    have hto : toldG g (wantE (chkG g) (memOk (joined m now)) 1) = joinG g m now := by
      rw [toldG_ne hz]
      unfold joinG
      by_cases hch : chkG g = 0
      · rw [hch] at hz ⊢
        have : memOk (joined m now) = false := by
          cases q : memOk (joined m now)
          · rfl
          · rw [q, wantE_t] at hz; exact absurd rfl hz
        have h2 : memOk { m with beat := now, joined := true } = false := this
        rw [this, wantE_f, if_neg (by simp), if_pos h2]
      · rw [wantE_ne hch, if_pos hch]
    repeat (first | refine cg_seq ?_ | refine cg_region ?_ | refine qsp ?_)
    refine rcm rfl rfl rfl rfl rfl rfl rfl (told_ctm h10.to0) om ?_
    rintro _ k11 hle11 ⟨a9, c9, css9, rfl, hp9, hr9⟩
    rw [hto] at hp9 hr9 ⊢
    have r11 := le_one hle11 r10 n6
    have hK11 := hle11 KK h10.le (fun b hb => by rw [hb]; exact h10.kb)
    repeat (first | refine qsp ?_)
    refine rw1 (vs := (joinG g m now).1.cs a9 c9) rfl rfl rfl rfl rfl rfl rfl r11 rfl (.inl hN6) (by simp [Group.cs, Value.oneCell']) ?_
    intro k12 ht12 hk12
    repeat (first | refine rg_nil ?_ | refine eg_then ?_ | refine qsp ?_ | refine cg_ret ?_ | refine eg_then_ret ?_)
    exact eg_returnC2 rfl rfl rfl rfl (cells_at (vs := (joinG g m now).1.cs a9 c9) hk12 rfl) rfl ⟨a9, c9, rfl, GrpR.sl hp9 (hr9.turnY ht12 r11 (by decide)) (ht12 KK hK11 hK6)⟩
  have hz : wantE (chkG g) (memOk (joined m now)) 1 = 0 := by simpa using hz
  rw [hz] at h10
  obtain ⟨hz0, hmem⟩ := (wantE_cases _ _ _ (by decide)).1 hz
  have hc := chk_all hz0
  clear hz c44 hz0
  repeat (first | refine cg_seq ?_ | refine eg_then ?_ | refine cg_skip ?_)
  have hsubd : Sl tStr (delB k10 b4) ma mc m.subs := hsub.le (le_delB hkk10 kb4)
  have hownd : Sl tTp (delB k10 b4) mo mp m.own := hown.le (le_delB hkk10 kb4)
  refine cg_sto1 8 7 b4 (0 + 2) 44 ((joined m now).cs ma mc mo mp).toArray (PStr (b4 + 1) (delB k10 b4) m.subs) s10 hN4 (by kernel_rfl) (by kernel_rfl) rfl (by kernel_rfl) rfl ?_
  dsimp only [List.take]
  repeat (first | refine qcf ?_)
  refine wc_i1 (v := .slice ma m.subs.length mc) rfl (loci_load1 (off := 0 + 2) (b := b4) ?_ rfl rfl rfl rfl) rfl ?_
  · rintro k' w ⟨s, tm, hs1, hw, hX⟩
    match s, hs1 with
    | 0, _ => exact ⟨_, _, _, hX.2.2.1 rfl, rfl⟩
    | 1, _ => exact (no_win hw (by kernel_rfl)).elim
  skip
  refine wc_iv (φ := PStr (b4 + 1) (delB k10 b4) m.subs) rfl (loci_ctn (fun k' w ⟨s, tm, _, _, hX⟩ => hX.1) rfl rfl rfl rfl (Le.refl _) (fun M k k' v hle ⟨css, h1, h2⟩ => ⟨css, h1, h2.le hle⟩) (cloneStr_ct hsubd hm1)) rfl ?_
  repeat (first | refine qcf ?_)
  refine wc_i1 (v := .slice mo m.own.length mp) rfl (loci_load1 (off := 0 + 3) (b := b4) ?_ rfl rfl rfl rfl) rfl ?_
  · rintro k' w ⟨s, tm, hs1, hw, hX⟩
    match s, hs1 with
    | 0, _ => exact ⟨_, _, _, hX.2.2.1 rfl, rfl⟩
    | 1, _ =>
      obtain ⟨u, k0, h1, _⟩ := hX.2.2.2 rfl
      exact ⟨_, _, _, h1, rfl⟩
  skip
  refine wc_iv (φ := PTp (b4 + 1) (delB k10 b4) m.own) rfl (loci_ctn (fun k' w ⟨s, tm, _, _, hX⟩ => hX.1) rfl rfl rfl rfl (Le.refl _) (fun M k k' v hle ⟨css, h1, h2⟩ => ⟨css, h1, h2.le hle⟩) (cloneTp_ct hownd hm2)) rfl ?_
  repeat (first | refine qcf ?_)
  refine wc_e 0 rfl (effs_st1 (dv := 34) (b := b4) (off := 0 + 2) rfl (Le.refl _) rfl rfl rfl rfl (fun k u h => made_one (T := tStr) h) (by show _ < 6; omega) hN4) ?_
  refine wc_nil ?_
  intro k0' k11 vs u hle0 hφ hle11 hb11 hvs
  have hv37 : PTp (b4 + 1) (delB k10 b4) m.own k11 (vs 37) := hvs 37 _ rfl
  clear hvs
  dsimp only [List.drop, set]
  simp only [nameE, nameP]
  generalize vs 37 = w at hv37 ⊢
  have hkd : Le k (delB k10 b4) := le_delB hkk10 kb4
  have h10d := h10.delB n4 hK4 s10 nv4 (by decide) (by decide)
  have r10d := (show delB k10 b4 b6 = k10 b6 by unfold delB; rw [if_neg (Ne.symm n46)]).trans r10
  obtain ⟨kd, hkdd⟩ : ∃ kd, delB k10 b4 = kd := ⟨_, rfl⟩
  have kdb4 : kd b4 = none := by rw [← hkdd]; exact delB_own _ _
  rw [hkdd] at hv37 hφ hle0 h10d r10d hkd
  have hle58 : Le kd k11 := hle0.trans hle11
  have hw1 := made_one (T := tTp) hv37
  have hu8 : PStr (b4 + 1) kd m.subs k11 u := made_le (T := tStr) hφ fun g o _ h => hle11 g o h
  have hk9e : upd k11 b4 (.cells (((joined m now).cs ma mc mo mp).toArray.setIfInBounds (0 + 2) u) 44 (0, 0)) b4 = some (.cells (((joined m now).cs ma mc mo mp).toArray.setIfInBounds (0 + 2) u) 44 (0, 0)) := upd_same _ _ _
  have hle59 : Le kd (upd k11 b4 (.cells (((joined m now).cs ma mc mo mp).toArray.setIfInBounds (0 + 2) u) 44 (0, 0))) := hle58.upd kdb4
  have hup : ∀ g o, b4 + 1 ≤ g → k11 g = some o → upd k11 b4 (.cells (((joined m now).cs ma mc mo mp).toArray.setIfInBounds (0 + 2) u) 44 (0, 0)) g = some o := fun g o hg h => (upd_other (by omega)).trans h
  have hu9 := made_le (T := tStr) hu8 hup
  have hv9 := made_le (T := tTp) hv37 hup
  generalize upd k11 b4 (.cells (((joined m now).cs ma mc mo mp).toArray.setIfInBounds (0 + 2) u) 44 (0, 0)) = k12 at hk9e hle59 hu9 hv9 ⊢
  have h12 := h10d.up hle59
  have r12 := hle59 _ _ r10d
  have hkk12 := hkd.trans hle59
  clear hu8 hv37 hφ hup hle58 hle11 hb11 hle0 h10 r10 s10 hsubd hownd hkk10
  repeat (first | refine qsf ?_)
  refine rw0 rfl rfl rfl rfl rfl rfl hw1 rfl hk9e (by show _ < 6; omega) (.inl hN4) ?_; intro k13 ht13 hk13
  have h13 := (h12.turnM ht13 n4 hK4 hk9e nv4 (by decide) (by decide)).N_le hN7
  have r13 := turn1_get ht13 (Ne.symm n46) r12
  have hkk13 := ht13 k hkk12 kb4
  have hkd13 := ht13 kd hle59 kdb4
  have hup2 : ∀ g o, b4 + 1 ≤ g → k12 g = some o → k13 g = some o := fun g o hg h => turn1_get ht13 (by omega) h
  have hu10 := made_le (T := tStr) hu9 hup2
  have hv10 := made_le (T := tTp) hv9 hup2
  have hwne : ∀ gg, w.ownBlock = some gg → kd gg = none := fun gg h2 => by
    obtain ⟨M, hM1, hM2, cs3, _, hr3⟩ := hv10
    exact hM2 gg (hr3.block h2).1
  have hur : Row F.w0.heap.size k13 9 1 u m.subs.length (m.subs.flatMap strV) := made_rowS hu10 (by omega)
  have hwr : Row F.w0.heap.size k13 53 3 w m.own.length (m.own.flatMap Tp.vs) := made_row hv10 (by omega)
  obtain ⟨au, cu, rfl, hsu⟩ := made_sl (T := tStr) (fun _ _ _ _ h => h) hu10 (fun g _ _ => rfl)
  obtain ⟨ao, co, rfl, hso⟩ := made_sl (T := tTp) (fun _ _ _ _ h => h) hv10 (fun g _ _ => rfl)
  have hk13m : k13 b4 = some (.cells ((joined m now).cs au cu ao co).toArray 44 (0, 0)) := hk13
  have hxrow : MemRow F.w0.heap.size k13 ((joined m now).cs au cu ao co) (joined m now) := ⟨hwr, hur⟩
  have c4 := cells_at (vs := (joined m now).cs au cu ao co) hk13m rfl
  have h10d' := h10d.N_le hN7
  clear hu10 hv10 hk13 hu9 hv9 h12 r12 hkk12 hle59 hw1 hup2 hk9e ht13 h10d
  obtain ⟨p0, p1, p2, p3, p4, p5⟩ := Member.parts c4
  repeat (first | refine cg_seq ?_ | refine cg_region ?_ | refine rg_nil ?_ | refine eg_then ?_ | refine qsp ?_ | refine qsl ?_ | refine qsf ?_)
  refine rcm rfl rfl rfl rfl rfl rfl rfl (find_ctm h13 hb m.id false) om ?_
  rintro _ k14 hle14 ⟨i, rfl, hfa, h14⟩
  rw [show (metAt m.id g.l i || !false) = true by simp, wantE_t] at h14
  have r14 := le_one hle14 r13 n6
  have s14 := le_one hle14 hk13m n4
  have hxrow := hxrow.keep hle14 (fun b c et fr hb hk => by rw [hb, h13.at'] at hk; cases hk; exact ⟨by decide, by decide⟩)
  have hKw : ∀ gg, (Value.slice ao m.own.length co).ownBlock = some gg → KK gg = none := fun gg hgg => by
    cases hc : KK gg with
    | none => rfl
    | some ob => have := h10d'.le _ _ hc; rw [hwne gg hgg] at this; cases this
  have hos := sl_ok_str hsu
  have hoo := sl_ok_tp hso
  obtain ⟨c6, r14, z6⟩ : ∃ c6, k14 b6 = some (.cells c6 24 (0, 0)) ∧ c6.size = 4 := ⟨_, r14, rfl⟩
  clear h13 r13 hk13m hle14 h10d' hkd13 hwne hwr hur hsu hso c4 p0 p1 p2 p3 p4 p5 hkk13 hkd kdb4
  obtain ⟨a3, c3, rfl, hsl14⟩ := h14.sl
  have c42 := (cells_at (vs := kCells g (.slice a3 g.l.length c3) 0) h14.at' rfl).one (i := 2) rfl
  have c43 := (cells_at (vs := kCells g (.slice a3 g.l.length c3) 0) h14.at' rfl).one (i := 3) rfl
  have c40 := cells_at (vs := (joined m now).cs au cu ao co) s14 rfl
  have bl := hsl14.cap; have bm := hsl14.max; unfold maxLen at bm
  repeat (first | refine cg_seq ?_ | refine cg_region ?_ | refine rg_nil ?_ | refine eg_then ?_ | refine qsp ?_ | refine qsl ?_ | refine qsf ?_)
  refine cg_join (fun e' k' => ∃ bg l v e cs x KK, JMeet F.w0.heap.size b4 b6 bk g m now k' bg l v e cs x KK ∧ e' = [(4, .is (.pointer (some ⟨b4, 0, none⟩))), (6, .is (.pointer (some ⟨b6, 0, none⟩))), (8, .is (.pointer (some ⟨bk, 0, none⟩))), (11, .is (.bool bg))]) ?_ ?_
  · cases q : metAt m.id g.l i
    · have hno : hasId m.id g.l = false := by
        rw [← met_has hc.right, ← hfa.pos hc.right]; exact q
      have hj2 := indexFuncMem_ct hsl14 (g := 56) (cap := #[.pointer (some ⟨b4, 0, none⟩)]) (sameStat m.static) (fun x hx cm hcm => join2_ct (m := joined m now) (a0 := au) (c0 := cu) (a1 := ao) (c1 := co) c40 hcm)
      repeat (first | refine cg_seq ?_ | refine cg_region ?_ | refine qsp ?_ | refine qsl ?_ | refine qsf ?_ | refine cg_cond_false rfl ?_)
      refine rs rfl rfl (loc_call_is rfl rfl rfl rfl (hj2)) ?_
      repeat (first | refine cg_seq ?_ | refine cg_region ?_ | refine rg_nil ?_ | refine eg_then ?_ | refine qsp ?_)
      rcases idxF_cases g.l (sameStat m.static) with ⟨hx, _⟩ | ⟨s, hs, hx, hyes, _⟩
      · rw [hx]
        clear hj2
        repeat (first | refine cg_seq ?_ | refine cg_region ?_ | refine qsp ?_ | refine qsn ?_ | refine qsl ?_ | refine qsf ?_ | refine cg_cond_false rfl ?_)
        refine rcm rfl rfl rfl rfl rfl rfl rfl (want_ctm h14 (decide ((g.l.length : Int) < 64)) 2) om ?_
        rintro _ k15 hle15 ⟨rfl, h15⟩
        have s15 := le_one hle15 s14 n4
        have r15 := le_one hle15 r14 n6
        have x15 := hxrow.subs.keep hle15 (fun b c fr hb hk => by rw [hb, h14.at'] at hk; simp at hk)
        have e2 := (cells_at (vs := kCells g (.slice a3 g.l.length c3) (wantE 0 (decide ((g.l.length : Int) < 64)) 2)) h15.at' rfl).one (i := 2) rfl
        clear c42 c43 c40 hsl14 h14 s14 r14 hxrow hle15
        repeat (first | refine cg_seq ?_ | refine cg_region ?_ | refine rg_nil ?_ | refine eg_then ?_ | refine qsf ?_)
        refine rw0 rfl rfl rfl rfl rfl rfl rfl rfl s15 (by show _ < 6; omega) (.inl hN4) ?_; intro k16 ht16 hk16
        have s16 : k16 b4 = some (.cells (({ joined m now with own := [] } : Member).cs au cu none 0).toArray 44 (0, 0)) := hk16
        have h16 := h15.turnM ht16 n4 hK4 s15 nv4 (by decide) (by decide)
        have x16 : MemRow F.w0.heap.size k16 (({ joined m now with own := [] } : Member).cs au cu none 0) { joined m now with own := [] } := ⟨row_nil _ _ _ _, x15.turnY ht16 s15 (by decide)⟩
        have e2 := (cells_at (vs := kCells g (.slice a3 g.l.length c3) (wantE 0 (decide ((g.l.length : Int) < 64)) 2)) h16.at' rfl).one (i := 2) rfl
        repeat (first | refine cg_region ?_ | refine rg_nil ?_ | refine eg_then ?_ | refine qsp ?_ | refine qsl ?_ | refine qsf ?_)
        refine eg_join [(4, .is (.pointer (some ⟨b4, 0, none⟩))), (6, .is (.pointer (some ⟨b6, 0, none⟩))), (8, .is (.pointer (some ⟨bk, 0, none⟩))), (11, .is (.bool (g.state != 1)))] ⟨g.state != 1, g.l, _, _, _, _, KK, ⟨h16, hK4, hK6, nv4, s16, x16, ⟨k16, _, _, _, _, rfl, ⟨row_sl_str x16.subs hos, row_sl_tp x16.own (fun t ht => by cases ht)⟩, hmok'⟩, ⟨c6, turn1_get ht16 (Ne.symm n46) r15, z6⟩, rfl, hc.right, hc.few, ?_⟩, rfl⟩ ⟨rfl, rfl, rfl, rfl, trivial⟩
        have hw := way_c (now := now) hc hmem hno (by rw [hx]; decide)
        have hd1 : decide ((g.l.length : Int) < 64) = decide (g.l.length < 64) := by rw [decide_eq_decide]; omega
        have hd2 : (g.state != 1) = decide (g.state ≠ 1) := by rw [Bool.eq_iff_iff]; simp
        rw [hd1, hd2]; exact hw
      · rw [hx]
        have hw : g.l[s]? = some g.l[s] := List.getElem?_eq_getElem hs
        obtain ⟨was, hwas⟩ : ∃ was, g.l[s] = was := ⟨_, rfl⟩
        rw [hwas] at hw hyes
        obtain ⟨css, u1, u2, u3⟩ := h14.row
        have hcl : css.length = g.l.length := u1.1
        have hci := List.getElem?_eq_getElem (show s < css.length by omega)
        obtain ⟨a0, c0, a1, c1, hce, ⟨hws, hwo⟩, hwok⟩ := u1.2 s _ _ hci hw
        rw [hce] at hci
        obtain ⟨gb, cap, cur, hve, hgN, hkg, hglt, hcg, hcs, hcel, hset⟩ := u2.el (i := s) u1.len hci (by decide)
        cases hve
        have hkw := (u3.rows s _ _ hci hw).le h14.le
        have n4b : b4 ≠ gb := fun e => nv4 (by rw [← e]; rfl)
        obtain ⟨d0, d1, d2, d3, d4, d5⟩ := Member.parts hcel
        clear hj2
        refine cg_cond rfl (fun _ => ?_) (fun hh => absurd hh (by simp))
        repeat (first | refine cg_seq ?_ | refine cg_region ?_ | refine qsp ?_ | refine qsi ?_ | refine qsl ?_ | refine qsf ?_)
        refine rw0 rfl rfl rfl rfl rfl rfl rfl rfl s14 (by show _ < 6; omega) (.inl hN4) ?_; intro k15 ht15 hk15
        have s15 : k15 b4 = some (.cells (({ joined m now with own := was.own } : Member).cs au cu a1 c1).toArray 44 (0, 0)) := hk15
        have h15 := h14.turnM ht15 n4 hK4 s14 nv4 (by decide) (by decide)
        have x15 : MemRow F.w0.heap.size k15 (({ joined m now with own := was.own } : Member).cs au cu a1 c1) { joined m now with own := was.own } := ⟨hkw.own.turnY ht15 s14 (by decide), hxrow.subs.turnY ht15 s14 (by decide)⟩
        have r15 := turn1_get ht15 (Ne.symm n46) r14
        have bk15 := h15.at'
        have u15 : Row F.w0.heap.size k15 44 6 (.slice (some ⟨gb, 0, none⟩) g.l.length c3) css.length css.flatten := by
          rw [hcl]
          refine u2.at fun gg hg => ?_
          obtain ⟨c, hc⟩ := u2.typ hg
          rw [hc]
          exact turn1_get ht15 (fun e => by simp [Value.ownBlock] at hg; exact n4b (by rw [hg, e])) hc
        have hgb15 := turn1_get ht15 (Ne.symm n4b) hkg
        obtain ⟨d0, d1, d2, d3, d4, d5⟩ := Member.parts (by
          obtain ⟨cc, ee, ff, hh1, hh2⟩ := hcel
          rw [hkg] at hh1
          cases hh1
          exact ⟨cur, _, _, hgb15, hh2⟩ : Cells k15 gb (0 + s * 6) (was.cs a0 c0 a1 c1))
        have e3 := (cells_at (vs := kCells g (.slice (some ⟨gb, 0, none⟩) g.l.length c3) 0) bk15 rfl).one (i := 3) rfl
        have hws15 : Sl tStr k15 a0 c0 was.subs := hws.le h15.le
        have hms15 : Sl tStr k15 au cu m.subs := row_sl_str x15.subs hos
        obtain ⟨q0, q1, q2, q3, q4, q5⟩ := Member.parts (cells_at (vs := ({ joined m now with own := was.own } : Member).cs au cu a1 c1) s15 rfl)
        clear c42 c43 c40 hsl14 h14 s14 r14 hxrow hkw u2 hkg hcel hset hcg ht15 hk15
        obtain ⟨bg, hbg⟩ : ∃ bg, (decide (g.state = 2) && !decide (was.subs = m.subs)) = bg := ⟨_, rfl⟩
        repeat (first | refine cg_seq ?_ | refine rg_nil ?_ | refine eg_then ?_)
        apply meet (k := k15) [(4, .is (.pointer (some ⟨b4, 0, none⟩))), (6, .is (.pointer (some ⟨b6, 0, none⟩))), (8, .is (.pointer (some ⟨bk, 0, none⟩))), (11, .is (.bool bg)), (13, .is (.int .i64 (s : Int)))] True
        · intro go
          cases q2 : (g.state == 2)
          · have q3 : decide (g.state = 2) = false := q2
            rw [q3] at hbg
            refine cg_any (by kernel_rfl) rfl ?_
            repeat (first | refine qwp ?_ | refine qwo ?_ | (refine wn rfl ?_; refine eg_then ?_))
            exact go _ trivial ⟨rfl, rfl, rfl, by rw [← hbg]; rfl, rfl, trivial⟩
          · have q3 : decide (g.state = 2) = true := q2
            rw [q3] at hbg
            refine cg_any (by kernel_rfl) rfl ?_
            repeat (first | refine qwp ?_ | refine qwi ?_ | refine qwl ?_ | refine qwf ?_)
            refine ws rfl (loc_call_is rfl rfl rfl rfl (equalStr_ct hws15 hms15)) ?_
            repeat (first | refine qwp ?_ | (refine wn rfl ?_; refine eg_then ?_))
            exact go _ trivial ⟨rfl, rfl, rfl, by rw [← hbg]; rfl, rfl, trivial⟩
        rintro -
        repeat (first | refine cg_region ?_ | refine qsp ?_ | refine qsa ?_ | refine qsl ?_ | refine qsf ?_)
        rw [show ((s : Nat) : Int) + 1 = ((s + 1 : Nat) : Int) from rfl]
        obtain ⟨p, hpd⟩ : ∃ p : Nat → Prop, p = fun b => b = bk ∨ b = b4 ∨ b = b6 ∨ (Value.slice (some ⟨gb, 0, none⟩) g.l.length c3).ownBlock = some b := ⟨_, rfl⟩
        have pk : p bk := by rw [hpd]; exact .inl rfl
        have p4 : p b4 := by rw [hpd]; exact .inr (.inl rfl)
        have p6 : p b6 := by rw [hpd]; exact .inr (.inr (.inl rfl))
        have pv : ∀ b, (Value.slice (some ⟨gb, 0, none⟩) g.l.length c3).ownBlock = some b → p b := fun b hb => by rw [hpd]; exact .inr (.inr (.inr hb))
        obtain ⟨KA, hKA⟩ : ∃ KA, KA = cutH k15 p := ⟨_, rfl⟩
        have kA : ∀ b, p b → KA b = none := fun b hb => by rw [hKA]; exact cutH_no hb
        have hrows : OwnsAt F.w0.heap.size KA (css.take s ++ css.drop (s + 1)) (delM s g.l) := by
          rw [hKA]
          refine ((u3.le h15.le).del hcl s).cut (del_clen hcl s) (cut_ok ((u3.le h15.le).del hcl s) (del_clen hcl s) (wv := .slice none 0 0) (fun cs hc gg h1 h2 => by simp [Value.ownBlock] at h2) (fun gg hgg => by simp [Value.ownBlock] at hgg) ?_)
          intro b hb
          rw [hpd] at hb
          rcases hb with rfl | rfl | rfl | hb
          · exact .inl ⟨_, _, _, bk15, by decide, by decide⟩
          · exact .inl ⟨_, _, _, s15, by decide, by decide⟩
          · exact .inl ⟨_, _, _, r15, by decide, by decide⟩
          · obtain ⟨c, hc⟩ := u15.typ hb
            exact .inl ⟨_, _, _, hc, by decide, by decide⟩
        have hpcs : Pieces tMember KA (css.take s ++ css.drop (s + 1)) (delM s g.l) := hrows.pieces ((u1.take s).append (u1.drop (s + 1)))
        have hA15 : Le KA k15 := by rw [hKA]; exact cutH_le _ _
        refine rcm rfl rfl rfl rfl rfl rfl rfl (deleteRaw_ct (h := upd KA b4 (.cells (({ joined m now with own := was.own } : Member).cs au cu a1 c1).toArray 44 (0, 0))) (l := css) (i := s) (j := s + 1) u15 (raw_pieces u1) (upd_le hA15 s15) (fun gg hgg => (upd_other (fun e => nv4 (by rw [← e]; exact hgg))).trans (kA gg (pv gg hgg))) (Nat.le_succ _) (by omega)) (fun b hb => .inl (u15.block hb).1) ?_
        rintro u20 k20 hle20 ⟨hr20, _, hA20, hap20⟩
        have hA20 : Le KA k20 := ((Le.refl KA).upd (kA b4 p4)).trans hA20
        have nu4 : u20.ownBlock ≠ some b4 := fun e => by have := hap20 b4 e; rw [upd_same] at this; cases this
        have hap20 : Apart KA u20 := fun gg hgg => by
          have := hap20 gg hgg
          by_cases e : gg = b4
          · rw [e]; exact kA b4 p4
          · rwa [upd_other e] at this
        have tyv : ∀ b c et fr, (Value.slice (some ⟨gb, 0, none⟩) g.l.length c3).ownBlock = some b → k15 b = some (.cells c et fr) → et = 44 := fun b c et fr hb hk => by obtain ⟨c', hc'⟩ := u15.typ hb; rw [hk] at hc'; cases hc'; rfl
        have s20 := le_one hle20 s15 nv4
        have r20 := le_one hle20 r15 (fun e => by have := tyv _ _ _ _ e r15; revert this; decide)
        have bk20 := le_one hle20 bk15 (fun e => by have := tyv _ _ _ _ e bk15; revert this; decide)
        have x20 := x15.keep hle20 (fun b c et fr hb hk => by rw [tyv b c et fr hb hk]; exact ⟨by decide, by decide⟩)
        have hr20 : Row F.w0.heap.size k20 44 6 u20 (delM s g.l).length (css.take s ++ css.drop (s + 1)).flatten := by rw [← del_clen hcl s]; exact hr20
        have hsok : ∀ t ∈ was.own, t.ok := sl_ok_tp hwo
        clear tyv x15 u15 s15 r15 bk15 e3 hA15 hle20 d0 d1 d2 d3 d4 d5 q0 q1 q2 q3 q4 q5 hws15 hms15 hws hwo
        repeat (first | refine qsp ?_ | refine qsf ?_)
        refine rw0 rfl rfl rfl rfl rfl rfl hr20.oneV1 rfl bk20 (by show _ < 5; omega) (.inl hbn) ?_; intro k21 ht21 hk21
        repeat (first | refine rg_nil ?_)
        have x21 := x20.turnY ht21 bk20 (by decide) (by decide)
        refine eg_join [(4, .is (.pointer (some ⟨b4, 0, none⟩))), (6, .is (.pointer (some ⟨b6, 0, none⟩))), (8, .is (.pointer (some ⟨bk, 0, none⟩))), (11, .is (.bool bg))] ⟨bg, delM s g.l, u20, 0, _, _, KA, ⟨⟨hk21, hbn, ht21 KA hA20 (kA bk pk), kA bk pk, hap20, _, hpcs, hr20.turnY ht21 bk20 (by decide), hrows⟩, kA b4 p4, kA b6 p6, nu4, turn1_get ht21 n4 s20, x21, ⟨k21, _, _, _, _, rfl, ⟨row_sl_str x21.subs hos, row_sl_tp x21.own hsok⟩, hmok'⟩, ⟨c6, turn1_get ht21 n6 r20, z6⟩, rfl, ?_, ?_, ?_⟩, rfl⟩ ⟨rfl, rfl, rfl, rfl, trivial⟩
        · exact ((chk_lok hc).sub (del_sub s g.l)).right
        · have := del_len hw; have := hc.few; omega
        · rw [← hbg]; exact way_b hc hmem hno hx hw
    · have hlt : i < g.l.length := by
        unfold metAt at q
        have q := of_decide_eq_true q
        apply Classical.byContradiction
        intro hn
        rw [List.getElem?_eq_none (by omega)] at q; cases q
      have hw : g.l[i]? = some g.l[i] := List.getElem?_eq_getElem hlt
      have hwid : g.l[i].id = m.id := by
        unfold metAt at q
        have q := of_decide_eq_true q
        rw [hw] at q
        exact cmpStr_eq.1 (by simpa [byId] using q)
      obtain ⟨was, hwas⟩ : ∃ was, g.l[i] = was := ⟨_, rfl⟩
      rw [hwas] at hw hwid
      obtain ⟨css, u1, u2, u3⟩ := h14.row
      have hcl : css.length = g.l.length := u1.1
      have hci := List.getElem?_eq_getElem (show i < css.length by omega)
      obtain ⟨a0, c0, a1, c1, hce, ⟨hws, hwo⟩, hwok⟩ := u1.2 i _ _ hci hw
      rw [hce] at hci
      obtain ⟨gb, cap, cur, hve, hgN, hkg, hglt, hcg, hcs, hcel, hset⟩ := u2.el (i := i) u1.len hci (by decide)
      cases hve
      have hkw := (u3.rows i _ _ hci hw).le h14.le
      have n4b : b4 ≠ gb := fun e => nv4 (by rw [← e]; rfl)
      repeat (first | refine cg_seq ?_ | refine cg_region ?_ | refine qsp ?_ | refine qsi ?_ | refine qsl ?_ | refine qsg ?_ | refine qsf ?_ | refine cg_cond_true rfl ?_)
      refine rb rfl rfl rfl rfl (a_alloc rfl) ?_; intro b12 k15 hb12 hN12 hle15 hk15
      skip
      refine rw1 (vs := was.cs a0 c0 a1 c1) rfl rfl rfl rfl rfl rfl rfl hk15 rfl (.inl hN12) (by simp [Member.cs, Value.oneCell']) ?_
      intro k16 ht16 hk16
      have hle16 : Le k14 k16 := ht16 k14 hle15 hb12
      have c12 := cells_at (vs := was.cs a0 c0 a1 c1) hk16 rfl
      have n12 : ¬ b12 = bk := fun e => by have := h14.at'; rw [← e, hb12] at this; cases this
      have h16 := h14.up hle16
      have hk16 : k16 b12 = some (.cells (was.cs a0 c0 a1 c1).toArray 44 (0, 0)) := hk16
      have s16 := hle16 _ _ s14
      have r16 := hle16 _ _ r14
      have x16 := hxrow.le hle16
      have u16 := u2.le hle16
      have w16 := hkw.le hle16
      have c16 := c40.le hle16
      clear c42 c43 c40 hcel hset hsl14 ht16 hk15 hle15 h14 u2 hkw hxrow s14 r14 hkg hcg
      obtain ⟨p0, p1, p2, p3, p4, p5⟩ := Member.parts c16
      obtain ⟨d0, d1, d2, d3, d4, d5⟩ := Member.parts c12
      repeat (first | refine cg_seq ?_ | refine cg_region ?_ | refine rg_nil ?_ | refine eg_then ?_ | refine qsp ?_ | refine qsl ?_ | refine qsf ?_)
      refine rcm rfl rfl rfl rfl rfl rfl rfl (want_ctm h16 (decide (was.static = (joined m now).static)) 1) om ?_
      rintro _ k17 hle17 ⟨rfl, h17⟩
      have tyb : ∀ b c et fr, b = bk → k16 b = some (.cells c et fr) → et = 59 := fun b c et fr hb hk => by rw [hb, h16.at'] at hk; cases hk; rfl
      have s17 := le_one hle17 s16 n4
      have r17 := le_one hle17 r16 n6
      have x17 := x16.keep hle17 (fun b c et fr hb hk => by rw [tyb b c et fr hb hk]; exact ⟨by decide, by decide⟩)
      have w17 := w16.keep hle17 (fun b c et fr hb hk => by rw [tyb b c et fr hb hk]; exact ⟨by decide, by decide⟩)
      have u17 := u16.keep hle17 (fun b c fr hb hk => by have := tyb b c _ fr hb hk; revert this; decide)
      have c17 := cells_at (vs := was.cs a0 c0 a1 c1) (le_one hle17 hk16 n12) rfl
      have c4 := cells_at (vs := (joined m now).cs au cu ao co) s17 rfl
      clear tyb h16 s16 r16 x16 w16 u16 c16 p0 p1 p2 p3 p4 p5 d0 d1 d2 d3 d4 d5 c12 hle17 hk16
      have d3 := c17.one (i := 3) rfl
      generalize he1 : wantE 0 (decide (was.static = (joined m now).static)) 1 = e1 at h17 ⊢
      have hwown : ∀ gg, (Value.slice a1 was.own.length c1).ownBlock = some gg → ∃ c, k17 gg = some (.cells c 53 (0, 0)) := fun gg hgg => w17.own.typ hgg
      have hn4w : (Value.slice a1 was.own.length c1).ownBlock ≠ some b4 := fun e => by obtain ⟨c, hc⟩ := hwown _ e; rw [s17] at hc; cases hc
      have hdf := deleteFuncTp_ct (N := F.w0.heap.size) (h := cutH k17 (fun b => (Value.slice a1 was.own.length c1).ownBlock = some b)) (k := k17) (css := was.own.map Tp.vs) (l := was.own) (g := 52) (cap := #[.pointer (some ⟨b4, 0, none⟩)]) (fun t => !decide (t ∈ m.own)) w17.own (pcs_flat fun x hx => ⟨rfl, sl_ok_tp hwo x hx⟩) (cutH_le _ _) (fun gg hgg => cutH_no hgg) (fun k0 hk0 x cm hcm => by
        obtain ⟨rfl, _⟩ := hcm
        refine join1_ct (m := joined m now) (a0 := au) (c0 := cu) (a1 := ao) (c1 := co) ?_ ?_ x
        · exact (cells_at (vs := (joined m now).cs au cu ao co) ((cutH_at hn4w).trans s17) rfl).le hk0
        · refine (row_sl_tp (x17.own.at fun gg hgg => cutH_at fun hww => ?_) hoo).le hk0
          have h1 := hKw gg hgg
          obtain ⟨ob, hob⟩ := ((u3.rows i _ _ hci hw).own.block hww).2
          rw [h1] at hob; cases hob)
      repeat (first | refine cg_seq ?_ | refine cg_region ?_ | refine rg_nil ?_ | refine eg_then ?_ | refine qsp ?_ | refine qsl ?_ | refine qsf ?_)
      refine rcm rfl rfl rfl rfl rfl rfl rfl hdf (fun b hb => .inl (w17.own.block hb).1) ?_
      rintro u k18 hle18 ⟨css8, hr8, hp8, _, hap8⟩
      rw [metOf_filter] at hr8 hp8
      obtain ⟨p, hpd⟩ : ∃ p : Nat → Prop, p = fun b => b = bk ∨ b = b4 ∨ b = b6 ∨ (Value.slice (some ⟨gb, 0, none⟩) g.l.length c3).ownBlock = some b ∨ (Value.slice a1 was.own.length c1).ownBlock = some b := ⟨_, rfl⟩
      have pk : p bk := by rw [hpd]; exact .inl rfl
      have p4 : p b4 := by rw [hpd]; exact .inr (.inl rfl)
      have p6 : p b6 := by rw [hpd]; exact .inr (.inr (.inl rfl))
      have pv : ∀ b, (Value.slice (some ⟨gb, 0, none⟩) g.l.length c3).ownBlock = some b → p b := fun b hb => by rw [hpd]; exact .inr (.inr (.inr (.inl hb)))
      have pw : ∀ b, (Value.slice a1 was.own.length c1).ownBlock = some b → p b := fun b hb => by rw [hpd]; exact .inr (.inr (.inr (.inr hb)))
      obtain ⟨KA, hKA⟩ : ∃ KA, KA = cutH k17 p := ⟨_, rfl⟩
      have kA : ∀ b, p b → KA b = none := fun b hb => by rw [hKA]; exact cutH_no hb
      have hrows : OwnsAt F.w0.heap.size KA (css.take i ++ css.drop (i + 1)) (delM i g.l) := by
        rw [hKA]
        refine ((u3.le h17.le).del hcl i).cut (del_clen hcl i) (cut_ok ((u3.le h17.le).del hcl i) (del_clen hcl i) (wv := .slice a1 was.own.length c1) ?_ (fun gg hgg => ⟨_, _, (hwown gg hgg).choose_spec⟩) ?_)
        · intro cs hc gg h1 h2
          exact ownNe_del u3.ne hci cs hc gg h1 h2
        · intro b hb
          rw [hpd] at hb
          rcases hb with rfl | rfl | rfl | hb | hb
          · exact .inl ⟨_, _, _, h17.at', by decide, by decide⟩
          · exact .inl ⟨_, _, _, s17, by decide, by decide⟩
          · exact .inl ⟨_, _, _, r17, by decide, by decide⟩
          · obtain ⟨c, hc⟩ := u17.typ hb
            exact .inl ⟨_, _, _, hc, by decide, by decide⟩
          · exact .inr hb
      have hpcs : Pieces tMember KA (css.take i ++ css.drop (i + 1)) (delM i g.l) := hrows.pieces ((u1.take i).append (u1.drop (i + 1)))
      have hA17 : Le KA k17 := by rw [hKA]; exact cutH_le _ _
      have hA18 := hle18 KA hA17 fun b hb => kA b (pw b hb)
      have s18 := le_one hle18 s17 hn4w
      have r18 := le_one hle18 r17 (fun e => by obtain ⟨c, hc⟩ := hwown _ e; rw [r17] at hc; simp at hc)
      have bk18 := le_one hle18 h17.at' (fun e => by obtain ⟨c, hc⟩ := hwown _ e; rw [h17.at'] at hc; simp at hc)
      have u18 := u17.keep hle18 (fun b c fr hb hk => by obtain ⟨c', hc'⟩ := hwown _ hb; rw [hk] at hc'; simp at hc')
      have xs18 := x17.subs.keep hle18 (fun b c fr hb hk => by obtain ⟨c', hc'⟩ := hwown _ hb; rw [hk] at hc'; simp at hc')
      have hcs8 := pieces_map (T := tTp) (fun _ _ _ h => h.1) hp8
      have hsok : ∀ t ∈ metOf was.own m.own, t.ok := fun t ht => sl_ok_tp hwo t (List.mem_filter.1 ht).1
      obtain ⟨a9, c9, rfl, _⟩ := hr8.sls (T := tTp) ⟨hp8.1, fun i cs x h1 h2 => hp8.2 i cs x h1 h2⟩
      have hr8' : Row F.w0.heap.size k18 53 3 (.slice a9 (metOf was.own m.own).length c9) (metOf was.own m.own).length ((metOf was.own m.own).flatMap Tp.vs) := by
        rw [hcs8] at hr8; exact hr8
      have x18 : MemRow F.w0.heap.size k18 (({ joined m now with own := metOf was.own m.own } : Member).cs au cu a9 c9) { joined m now with own := metOf was.own m.own } := ⟨hr8', xs18⟩
      clear hdf hle18 hr8 hr8' hcs8 hap8 hp8 x17 u17 c17 c4 d3 xs18 w17
      repeat (first | refine qsf ?_)
      refine rw0 rfl rfl rfl rfl rfl rfl rfl rfl s18 (by show _ < 6; omega) (.inl hN4) ?_; intro k19 ht19 hk19
      have s19 : k19 b4 = some (.cells (({ joined m now with own := metOf was.own m.own } : Member).cs au cu a9 c9).toArray 44 (0, 0)) := hk19
      have hA19 := ht19 KA hA18 (kA b4 p4)
      have x19 := x18.turnY ht19 s18 (by decide) (by decide)
      have u19 : Row F.w0.heap.size k19 44 6 (.slice (some ⟨gb, 0, none⟩) g.l.length c3) css.length css.flatten := by
        rw [hcl]
        refine u18.at fun gg hg => ?_
        obtain ⟨c, hc⟩ := u18.typ hg
        rw [hc]
        exact turn1_get ht19 (fun e => by simp [Value.ownBlock] at hg; exact n4b (by rw [hg, e])) hc
      have r19 := turn1_get ht19 (Ne.symm n46) r18
      have bk19 := turn1_get ht19 (Ne.symm n4) bk18
      have e3 := (cells_at (vs := kCells g (.slice (some ⟨gb, 0, none⟩) g.l.length c3) e1) bk19 rfl).one (i := 3) rfl
      clear x18 u18 s18 r18 bk18 hA18 ht19 hk19
      repeat (first | refine cg_region ?_ | refine rg_nil ?_ | refine eg_then ?_ | refine qsp ?_ | refine qsa ?_ | refine qsl ?_ | refine qsf ?_)
      rw [show ((i : Nat) : Int) + 1 = ((i + 1 : Nat) : Int) from rfl]
      refine rcm rfl rfl rfl rfl rfl rfl rfl (deleteRaw_ct (h := upd KA b4 (.cells (({ joined m now with own := metOf was.own m.own } : Member).cs au cu a9 c9).toArray 44 (0, 0))) (l := css) (i := i) (j := i + 1) u19 (raw_pieces u1) (upd_le hA19 s19) (fun gg hgg => (upd_other (fun e => nv4 (by rw [← e]; exact hgg))).trans (kA gg (pv gg hgg))) (Nat.le_succ _) (by omega)) (fun b hb => .inl (u19.block hb).1) ?_
      rintro u20 k20 hle20 ⟨hr20, _, hA20, hap20⟩
      have hA20 : Le KA k20 := ((Le.refl KA).upd (kA b4 p4)).trans hA20
      have nu4 : u20.ownBlock ≠ some b4 := fun e => by have := hap20 b4 e; rw [upd_same] at this; cases this
      have hap20 : Apart KA u20 := fun gg hgg => by
        have := hap20 gg hgg
        by_cases e : gg = b4
        · rw [e]; exact kA b4 p4
        · rwa [upd_other e] at this
      have tyv : ∀ b c et fr, (Value.slice (some ⟨gb, 0, none⟩) g.l.length c3).ownBlock = some b → k19 b = some (.cells c et fr) → et = 44 := fun b c et fr hb hk => by obtain ⟨c', hc'⟩ := u19.typ hb; rw [hk] at hc'; cases hc'; rfl
      have s20 := le_one hle20 s19 nv4
      have r20 := le_one hle20 r19 (fun e => by have := tyv _ _ _ _ e r19; revert this; decide)
      have bk20 := le_one hle20 bk19 (fun e => by have := tyv _ _ _ _ e bk19; revert this; decide)
      have x20 := x19.keep hle20 (fun b c et fr hb hk => by rw [tyv b c et fr hb hk]; exact ⟨by decide, by decide⟩)
      have hr20 : Row F.w0.heap.size k20 44 6 u20 (delM i g.l).length (css.take i ++ css.drop (i + 1)).flatten := by rw [← del_clen hcl i]; exact hr20
      clear tyv x19 u19 s19 r19 bk19 e3 hA19 hle20
      repeat (first | refine qsp ?_ | refine qsf ?_)
      refine rw0 rfl rfl rfl rfl rfl rfl hr20.oneV1 rfl bk20 (by show _ < 5; omega) (.inl hbn) ?_; intro k21 ht21 hk21
      repeat (first | refine rg_nil ?_)
      have x21 := x20.turnY ht21 bk20 (by decide) (by decide)
      refine eg_join [(4, .is (.pointer (some ⟨b4, 0, none⟩))), (6, .is (.pointer (some ⟨b6, 0, none⟩))), (8, .is (.pointer (some ⟨bk, 0, none⟩))), (11, .is (.bool (decide (g.state = 2))))] ⟨decide (g.state = 2), delM i g.l, u20, e1, _, _, KA, ⟨⟨hk21, hbn, ht21 KA hA20 (kA bk pk), kA bk pk, hap20, _, hpcs, hr20.turnY ht21 bk20 (by decide), hrows⟩, kA b4 p4, kA b6 p6, nu4, turn1_get ht21 n4 s20, x21, ⟨k21, _, _, _, _, rfl, ⟨row_sl_str x21.subs hos, row_sl_tp x21.own hsok⟩, hmok'⟩, ⟨c6, turn1_get ht21 n6 r20, z6⟩, rfl, ?_, ?_, ?_⟩, rfl⟩ ⟨rfl, rfl, rfl, rfl, trivial⟩
      · exact ((chk_lok hc).sub (del_sub i g.l)).right
      · have := del_len hw; have := hc.few; omega
      · rw [← he1]; exact way_a hc hmem hfa hw hwid
  · rintro _ k1 ⟨bg, l, v, e, cs, x, KK0, J, rfl⟩
    clear h14 s14 r14 hxrow c42 c43 c40 hsl14 hKw hfa nv4 vge nv6 hos hoo hK4 hK6 bl bm
    obtain ⟨c6', r1, z6'⟩ := J.m6
    obtain ⟨css, u1, u2, u3⟩ := J.keep.row
    have hcl : css.length = l.length := u1.1
    have h1 := J.keep
    obtain ⟨p, hpd⟩ : ∃ p : Nat → Prop, p = fun b => b = bk ∨ b = b4 ∨ b = b6 ∨ v.ownBlock = some b := ⟨_, rfl⟩
    have pk : p bk := by rw [hpd]; exact .inl rfl
    have p4 : p b4 := by rw [hpd]; exact .inr (.inl rfl)
    have p6 : p b6 := by rw [hpd]; exact .inr (.inr (.inl rfl))
    have pv : ∀ b, v.ownBlock = some b → p b := fun b hb => by rw [hpd]; exact .inr (.inr (.inr hb))
    have pt : ∀ b, p b → ∃ c et fr, k1 b = some (.cells c et fr) ∧ et ≠ 53 ∧ et ≠ 9 := fun b hb => by
      rw [hpd] at hb
      rcases hb with rfl | rfl | rfl | hb
      · exact ⟨_, _, _, h1.at', by decide, by decide⟩
      · exact ⟨_, _, _, J.m4, by decide, by decide⟩
      · exact ⟨_, _, _, r1, by decide, by decide⟩
      · obtain ⟨c, hc⟩ := u2.typ hb
        exact ⟨_, _, _, hc, by decide, by decide⟩
    obtain ⟨KA, hKA⟩ : ∃ KA, KA = cutH k1 p := ⟨_, rfl⟩
    have kA : ∀ b, p b → KA b = none := fun b hb => by rw [hKA]; exact cutH_no hb
    have hA1 : Le KA k1 := by rw [hKA]; exact cutH_le _ _
    have hrows : OwnsAt F.w0.heap.size KA css l := by
      rw [hKA]
      exact (u3.le h1.le).cut hcl (cut_ok (u3.le h1.le) hcl (wv := .slice none 0 0) (fun cs hc gg h1 h2 => by simp [Value.ownBlock] at h2) (fun gg hgg => by simp [Value.ownBlock] at hgg) fun b hb => .inl (pt b hb))
    have hk1 : KeepAt F.w0.heap.size KA k1 bk v { g with l := l } e := ⟨h1.at', hbn, hA1, kA bk pk, fun gg hgg => kA gg (pv gg hgg), css, hrows.pieces u1, u2, hrows⟩
    have hxr : tMember.rep KA cs x := by
      have hm : MemRow F.w0.heap.size KA cs x := by
        rw [hKA]
        refine J.row.cut fun gg hgg hp => ?_
        obtain ⟨c, et, fr, hk, e1, e2⟩ := pt gg hp
        rcases hgg with hgg | hgg
        · obtain ⟨c', hc'⟩ := J.row.own.typ hgg
          rw [hk] at hc'; cases hc'; exact e1 rfl
        · obtain ⟨c', hc'⟩ := J.row.subs.typ hgg
          rw [hk] at hc'; cases hc'; exact e2 rfl
      obtain ⟨h0, hr⟩ := J.rep
      exact hm.rep hr
    have nv4 := J.nv4
    have s1 := J.m4
    have hid := J.id
    have hright := J.right
    have hfew := J.few
    have hfin := J.fin
    have hgen : 0 ≤ g.gen ∧ g.gen ≤ 1048576 := ⟨hc.gen0, hc.gen1⟩
    clear J h1 hKA u1 u2 u3 hcl pt
    repeat (first | refine cg_seq ?_ | refine cg_region ?_ | refine rg_nil ?_ | refine eg_then ?_ | refine qsp ?_)
    refine cg_join (fun e' k' => ∃ g2 e2, KeepAt F.w0.heap.size KA k' bk v g2 e2 ∧ k' b4 = some (.cells cs.toArray 44 (0, 0)) ∧ k' b6 = some (.cells c6' 24 (0, 0)) ∧ RightP ordId memOk g2.l ∧ g2.l.length ≤ 64 ∧ toldG { g2 with l := insM x g2.l } e2 = joinG g m now ∧ e' = [(4, .is (.pointer (some ⟨b4, 0, none⟩))), (6, .is (.pointer (some ⟨b6, 0, none⟩))), (8, .is (.pointer (some ⟨bk, 0, none⟩)))]) ?_ ?_
    · cases bg
      · repeat (first | refine cg_cond_false rfl ?_ | refine cg_skip ?_)
        exact eg_join [(4, .is (.pointer (some ⟨b4, 0, none⟩))), (6, .is (.pointer (some ⟨b6, 0, none⟩))), (8, .is (.pointer (some ⟨bk, 0, none⟩)))] ⟨_, e, hk1, s1, r1, hright, hfew, hfin, rfl⟩ ⟨rfl, rfl, rfl, trivial⟩
      · repeat (first | refine cg_region ?_ | refine qsp ?_ | refine cg_cond_true rfl ?_)
        refine rcm rfl rfl rfl rfl rfl rfl rfl (round_ctm hk1 (by unfold I64; dsimp only; omega) (by unfold I64; dsimp only; omega)) (fun b hb => .inl (by
          rcases hb with rfl | hb
          · exact hbn
          · obtain ⟨cs5, _, hr5, _⟩ := hk1.row
            exact (hr5.block hb).1)) ?_
        rintro _ k2 hle2 ⟨rfl, h2⟩
        have s2 := le_one hle2 s1 (fun hb => hb.elim (fun e => n4 e) fun e => nv4 e)
        have r2 := le_one hle2 r1 (fun hb => hb.elim (fun e => n6 e) fun e => by
          obtain ⟨cs5, _, hr5, _⟩ := hk1.row
          obtain ⟨c, hc⟩ := hr5.typ e
          rw [r1] at hc; simp at hc)
        repeat (first | refine rg_nil ?_)
        exact eg_join [(4, .is (.pointer (some ⟨b4, 0, none⟩))), (6, .is (.pointer (some ⟨b6, 0, none⟩))), (8, .is (.pointer (some ⟨bk, 0, none⟩)))] ⟨_, _, h2, s2, r2, right_unjoin hright, by show (l.map unjoin).length ≤ 64; rw [List.length_map]; exact hfew, hfin, rfl⟩ ⟨rfl, rfl, rfl, trivial⟩
    clear hk1 s1 r1 hfin hA1
    rintro _ k2 ⟨g2, e2, h2, s2, r2, hr2, hf2, hfin, rfl⟩
    obtain ⟨x0, y0, x1, y1, rfl, hxsl, hxok⟩ := hxr
    have c40 := cells_at (vs := x.cs x0 y0 x1 y1) s2 rfl
    obtain ⟨q0, q1, q2, q3, q4, q5⟩ := Member.parts c40
    repeat (first | refine cg_seq ?_ | refine cg_region ?_ | refine eg_then ?_ | refine qsp ?_ | refine qsl ?_ | refine qsf ?_)
    refine rcm rfl rfl rfl rfl rfl rfl rfl (find_ctm h2 (by omega) x.id false) om ?_
    rintro _ k3 hle3 ⟨j, rfl, hfj, h3⟩
    rw [show (metAt x.id g2.l j || !false) = true by simp, wantE_t] at h3
    have r3 := le_one hle3 r2 n6
    have s3 := le_one hle3 s2 n4
    clear h2 s2 r2 q0 q1 q2 q3 q4 q5 c40 hle3
    obtain ⟨css, u1, u2, u3⟩ := h3.row
    obtain ⟨a4, c4, rfl, hsl4⟩ := h3.sl
    have nvk : (Value.slice a4 g2.l.length c4).ownBlock ≠ some bk := fun e => by obtain ⟨c, hc⟩ := u2.typ e; rw [h3.at'] at hc; simp at hc
    have nvb6 : (Value.slice a4 g2.l.length c4).ownBlock ≠ some b6 := fun e => by obtain ⟨c, hc⟩ := u2.typ e; rw [r3] at hc; simp at hc
    have dk4 : delV k3 (.slice a4 g2.l.length c4) b4 = _ := (delV_of nv4).trans s3
    have dkb : delV k3 (.slice a4 g2.l.length c4) bk = _ := (delV_of nvk).trans h3.at'
    have dk6 : delV k3 (.slice a4 g2.l.length c4) b6 = _ := (delV_of nvb6).trans r3
    have dA : Le KA (delV k3 (.slice a4 g2.l.length c4)) := le_delV h3.le h3.ap
    have e3 := (cells_at (vs := kCells g2 (.slice a4 g2.l.length c4) e2) dkb rfl).one (i := 3) rfl
    have e4 := cells_at (vs := x.cs x0 y0 x1 y1) dk4 rfl
    have bl := hsl4.cap; have bm := hsl4.max; unfold maxLen at bm
    repeat (first | refine cg_seq ?_ | refine rg_nil ?_ | refine eg_then ?_ | refine qsp ?_)
    refine cg_grow 13 9 (.slice a4 g2.l.length c4) u2 (by kernel_rfl) (by kernel_rfl) rfl (by kernel_rfl) rfl ?_
    dsimp only [List.take]
    repeat (first | refine qcp ?_ | refine qcl ?_ | refine qcg ?_ | refine qcf ?_)
    refine wc_v rfl (loc_alloc rfl (a_slice (cells := x.cs x0 y0 x1 y1) rfl rfl rfl rfl (by kernel_rfl) rfl)) rfl ?_
    refine wc_e 0 rfl (EffS.elim (p := .such fun k' v' => Row F.w0.heap.size k' 44 6 v' (insM x g2.l).length (css.take j ++ x.cs x0 y0 x1 y1 :: css.drop j).flatten ∧ Le KA k' ∧ Apart (delV k3 (.slice a4 g2.l.length c4)) v') 169 rfl (by kernel_rfl) (fun k k' v hle h => ⟨h.1.le hle, h.2.1.trans hle, h.2.2⟩) rfl fun u k5 hk5 hφ5 => ?_) ?_
    · obtain ⟨vb, rfl, hvb, _⟩ := hφ5
      have hjp : j = posF (byId x.id) g2.l := hfj.pos hr2
      have hln : (insM x g2.l).length = (g2.l.take j ++ x :: g2.l.drop j).length := by rw [hjp]; rfl
      rw [hln]
      refine eff_callM (φ := fun k' _ => Le KA k') (fun k k' v hle h => h.trans hle) rfl rfl rfl rfl rfl hk5 (fun hno k6 hk6 hrow6 => ?_)
      refine (insertRMem_ct (h := KA) (i := j) (vb := vb) (x := x) hrow6 u1 (dA.trans (hk5.trans hk6)) h3.ap hfj.le (hk6 _ _ hvb) ⟨x0, y0, x1, y1, rfl, hxsl, hxok⟩ (fun e => by rw [hno _ e] at hvb; cases hvb) (by omega)).imp ?_
      exact fun k v h => h
    repeat (first | refine qcp ?_ | refine qcf ?_)
    refine wc_nil ?_
    intro k7 vs7 hle7 hvs
    obtain ⟨hr7, hA7, hap7⟩ : Row F.w0.heap.size k7 44 6 (vs7 170) (insM x g2.l).length (css.take j ++ x.cs x0 y0 x1 y1 :: css.drop j).flatten ∧ Le KA k7 ∧ Apart (delV k3 (.slice a4 g2.l.length c4)) (vs7 170) := hvs 170 _ rfl
    clear hvs
    dsimp only [List.drop, set, argEnv, nameE, nameP]
    generalize vs7 170 = v7 at hr7 hap7 ⊢
    have bk7 := hle7 _ _ dkb
    have r7 := hle7 _ _ dk6
    have hjp : j = posF (byId x.id) g2.l := hfj.pos hr2
    have hp7 : Pieces tMember KA (css.take j ++ x.cs x0 y0 x1 y1 :: css.drop j) (insM x g2.l) := by
      have := u1.ins j (x := x) (cs := x.cs x0 y0 x1 y1) ⟨x0, y0, x1, y1, rfl, hxsl, hxok⟩
      rw [hjp] at this ⊢; exact this
    refine rw0 rfl rfl rfl rfl rfl rfl hr7.oneV1 rfl bk7 (by show _ < 5; omega) (.inl hbn) ?_; intro k8 ht8 hk8
    have hap8 : Apart KA v7 := fun gg hgg => by
      cases hcc : KA gg with
      | none => rfl
      | some ob => have h5 := hap7 gg hgg; rw [dA _ _ hcc] at h5; cases h5
    have h8 : KeepAt0 F.w0.heap.size KA k8 bk v7 { g2 with l := insM x g2.l } e2 := ⟨hk8, hbn, ht8 KA hA7 (kA bk pk), kA bk pk, hap8, _, hp7, hr7.turnY ht8 bk7 (by decide)⟩
    have r8 := turn1_get ht8 n6 r7
    repeat (first | refine cg_seq ?_ | refine cg_region ?_ | refine rg_nil ?_ | refine eg_then ?_ | refine qsp ?_)
    refine rcm rfl rfl rfl rfl rfl rfl rfl (told_ctm h8) om ?_
    rintro _ k9 hle9 ⟨a9, c9, css9, rfl, hp9, hr9⟩
    rw [hfin] at hp9 hr9 ⊢
    have r9 := le_one hle9 r8 n6
    have hK9 := hle9 KA h8.le (fun b hb => by rw [hb]; exact h8.kb)
    repeat (first | refine qsp ?_)
    refine rw1 (vs := (joinG g m now).1.cs a9 c9) rfl rfl rfl rfl rfl rfl rfl r9 z6' (.inl hN6) (by simp [Group.cs, Value.oneCell']) ?_
    intro k10 ht10 hk10
    repeat (first | refine rg_nil ?_ | refine eg_then ?_ | refine qsp ?_ | refine cg_ret ?_)
    exact eg_returnC2 rfl rfl rfl rfl (cells_at (vs := (joinG g m now).1.cs a9 c9) hk10 rfl) rfl ⟨a9, c9, rfl, GrpR.sl hp9 (hr9.turnY ht10 r9 (by decide)) (ht10 KA hK9 (kA b6 p6))⟩
end Go.Wm

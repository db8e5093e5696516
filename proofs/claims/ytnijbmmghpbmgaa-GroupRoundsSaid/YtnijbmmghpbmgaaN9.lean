/-
  Beat, the program's. Conditions: that what is handed in reads as data.
-/
import Derived.Test.YtnijbmmghpbmgaaK4
import Derived.Test.YtnijbmmghpbmgaaP10
import Derived.Test.YtnijbmmghpbmgaaJ1
import Derived.Test.YtnijbmmghpbmgaaSto2
import Derived.Test.YtnijbmmghpbmgaaN7
set_option linter.all false
namespace Go.Wm
open Go.RowKit Go.Proofs
def gotS (l : List Member) (tps : List Tp) (w : List Int) (p : Nat) : List Tp := (roundM l (outM l.length tps w)).getD p []
/-- What Sync tells. -/
structure SyncR (g : Group) (id : ByteArray) (gen now : Int) (tps : List Tp) (x : Group) (own : List Tp) (e : Int) : Prop where
  no : syncE g id gen now tps ≠ 0 → x = noG ∧ own = [] ∧ e = syncE g id gen now tps
  yes : syncE g id gen now tps = 0 → ∃ w, IsTgt g.l tps w ∧ own = gotS g.l tps w (posF (byId id) g.l) ∧ x = { g with l := setAt (posF (byId id) g.l) (setOwn own now) g.l } ∧ e = 0
theorem SyncR.same {g : Group} {id : ByteArray} {gen now : Int} {tps : List Tp} {x x' : Group} {own own' : List Tp} {e e' : Int} (h : SyncR g id gen now tps x own e) (h' : SyncR g id gen now tps x' own' e') : x = x' ∧ own = own' ∧ e = e' := by
  by_cases hz : syncE g id gen now tps = 0
  · obtain ⟨w, h1, h2, h3, h4⟩ := h.yes hz
    obtain ⟨w', k1, k2, k3, k4⟩ := h'.yes hz
    rw [h1.same k1] at h2
    have : own = own' := by rw [h2, k2]
    subst this
    exact ⟨by rw [h3, k3], rfl, by rw [h4, k4]⟩
  · obtain ⟨h1, h2, h3⟩ := h.no hz
    obtain ⟨k1, k2, k3⟩ := h'.no hz
    exact ⟨by rw [h1, k1], by rw [h2, k2], by rw [h3, k3]⟩
theorem set_perm {l : List Member} {p : Nat} {m m' : Member} (h : l[p]? = some m) : (l.set p m').Perm (m' :: delM p l) := by
  obtain ⟨hp, rfl⟩ := List.getElem?_eq_some_iff.1 h
  rw [List.set_eq_take_append_cons_drop, if_pos hp]
  exact List.perm_middle
theorem map_set_same {α : Type} {f : Member → α} {l : List Member} {p : Nat} {m m' : Member} (h : l[p]? = some m) (he : f m' = f m) : (l.set p m').map f = l.map f := by
  apply List.ext_getElem?
  intro i
  rw [List.getElem?_map, List.getElem?_map, List.getElem?_set]
  by_cases hi : p = i
  · subst hi
    obtain ⟨hlt, hpe⟩ := List.getElem?_eq_some_iff.1 h
    rw [if_pos rfl, if_pos hlt, h]
    simp [he]
  · rw [if_neg hi]
theorem LOk.set {l : List Member} {p : Nat} {m m' : Member} (h : LOk l) (hp : l[p]? = some m) (hid : m'.id = m.id) (hst : m'.static = m.static) (hok : memOk m' = true) (how : ∀ t ∈ m'.own, t ∉ owns (delM p l)) : LOk (l.set p m') := by
  obtain ⟨h1, h2⟩ := right_all.1 h.right
  obtain ⟨hlt, hpe⟩ := List.getElem?_eq_some_iff.1 hp
  have hids : (l.set p m').map (·.id) = l.map (·.id) := map_set_same hp hid
  have hsts : (l.set p m').map (·.static) = l.map (·.static) := map_set_same hp hst
  have pw : ∀ l : List Member, (l.Pairwise fun a b => ordId a b < 0) ↔ (l.map (·.id)).Pairwise fun a b => cmpStr a b < 0 := fun l => (List.pairwise_map (f := fun m : Member => m.id) (R := fun a b => cmpStr a b < 0)).symm
  refine ⟨right_all.2 ⟨fun x hx => ?_, ?_⟩, ?_, ?_⟩
  · rcases List.mem_or_eq_of_mem_set hx with hx | rfl
    · exact h1 x hx
    · exact hok
  · rw [pw, hids, ← pw]; exact h2
  · unfold statics; rw [hsts]; exact h.stat
  · rw [(owns_perm (set_perm (m' := m') hp)).nodup_iff, owns_cons]
    refine List.nodup_append.2 ⟨?_, h.own.sublist (ownsSub (del_sub p l)), fun a ha b hb e => how a ha (e ▸ hb)⟩
    exact ((right_iff ordL_tp).1 (memOk_right hok)).2.imp fun {a b} hlt he => by rw [he, ordTp_eq.2 rfl] at hlt; omega
theorem outM_subl {n i : Nat} {tps : List Tp} {w : List Int} {r : List Tp} (hw : w.length = tps.length) (h : (outM n tps w)[i]? = some r) : r.Sublist tps := by
  have hi : i < n := by
    have := (List.getElem?_eq_some_iff.1 h).1
    rwa [outM_len] at this
  rw [outM_get hi] at h
  cases h
  have := (List.filter_sublist (p := fun x : Tp × Int => decide (x.2 = (i : Int))) (l := tps.zip w)).map (·.1)
  rwa [List.map_fst_zip (by omega)] at this
theorem gotS_eq {l : List Member} {tps : List Tp} {w : List Int} {p : Nat} (hp : p < l.length) : gotS l tps w p = ((outM l.length tps w).getD p []).filter (giveB l p) := by
  unfold gotS roundM
  rw [List.getD_eq_getElem?_getD, List.getElem?_map, List.getElem?_range hp]
  rfl
theorem gotS_sub {l : List Member} {tps : List Tp} {w : List Int} {p : Nat} (hp : p < l.length) (hw : w.length = tps.length) : (gotS l tps w p).Sublist tps := by
  rw [gotS_eq hp]
  have hl : p < (outM l.length tps w).length := by rw [outM_len]; exact hp
  rw [List.getD_eq_getElem?_getD, List.getElem?_eq_getElem hl]
  exact List.filter_sublist.trans (outM_subl hw (List.getElem?_eq_getElem hl))
theorem stateG_set {l : List Member} {p : Nat} {m m' : Member} (h : l[p]? = some m) (hj : m'.joined = m.joined) : stateG (l.set p m') = stateG l := by
  unfold stateG
  rw [List.length_set]
  have : (l.set p m').any (fun m => !m.joined) = l.any fun m => !m.joined := by
    have e : ∀ l : List Member, l.any (fun m => !m.joined) = (l.map (·.joined)).any fun b => !b := fun l => by rw [List.any_map]; rfl
    rw [e, e, map_set_same h hj]
  rw [this]
theorem syncE_zero {g : Group} {id : ByteArray} {gen now : Int} {tps : List Tp} (h : syncE g id gen now tps = 0) : ChkG g ∧ timeOk now = true ∧ RightP ordTp tpOk tps ∧ hasId id g.l = true ∧ g.state ≠ 1 ∧ gen = g.gen := by
  unfold syncE at h
  split at h
  · rename_i h1; exact absurd h h1
  rename_i h1
  split at h
  · cases h
  rename_i h2
  split at h
  · cases h
  rename_i h3
  split at h
  · cases h
  rename_i h4
  split at h
  · cases h
  rename_i h5
  simp only [Bool.not_eq_false, Bool.and_eq_true, decide_eq_true_eq] at h2 h3
  exact ⟨chk_all (Decidable.not_not.1 h1), h2.1, h2.2, h3, h4, Decidable.not_not.1 h5⟩
theorem memOk_beat {m : Member} {now : Int} (h : memOk m = true) (ht : timeOk now = true) : memOk (setBeat now m) = true := by
  unfold memOk at h ⊢
  simp only [Bool.and_eq_true, decide_eq_true_eq] at h ⊢
  exact ⟨h.1, h.2.1, ht, h.2.2.2.1, h.2.2.2.2.1, h.2.2.2.2.2⟩
end Go.Wm
namespace Go.Wm
open Go.RowKit
section
variable {P : Program} {F : Fr} {n : Nat} {ops : Array Oper} {Q : Exit → Act → World → Prop} {rest : List Oper} {o : Oper} {e : Env} {k : PH}
theorem EffS.elim {X : Nat → (Nat → Value) → PH → World → Prop} {q : Nat} {p : PV} (t : Nat) {φ : PH → Value → Prop} (hg : get e t = some (.such φ)) (ht : (o.looksAt ops).contains t = true) (hm : p.Mono) (hgd : o.guard = none) (h : ∀ v k1, Le k k1 → φ k1 v → EffS P F n ops X q o ((t, .is v) :: e) k1 p) : EffS P F n ops X q o e k p := by
  refine ⟨hm, hgd, fun a w k1 hk hs hX hsz hl => ?_⟩
  have hv := hl t (List.contains_iff_mem.1 ht) _ hg
  refine (h (a.tmps.getD t undef) k1 hk hv).2.2 a w k1 (Le.refl _) hs hX hsz fun u hu q hq => ?_
  by_cases htu : t = u
  · subst htu
    rw [get_cons_same] at hq
    cases hq
    rfl
  · rw [get_cons_other _ _ htu] at hq
    exact hl u hu q hq
/-- The call, all that it is handed known. -/
theorem eff_callM {x : Operand} {args : Array Operand} {ats : Array TypeId} {g : FuncId} {first cap : Array Value} {vs : List Value} [FnOk P g] {et sz m m' d : Nat} {v : Value} {xs xs' : List Value} {kb : PH} {φ : PH → Value → Prop} (hφm : ∀ k k' v, Le k k' → φ k v → φ k' v)
    (hd : o.dst = some d) (hg : o.guard = none) (hop : o.op = .call { callee := .value x, args := args, argTypes := ats }) (hx : opv e x = some (.func (.func g) first cap)) (ha : opvs e args.toList = some vs) (hkb : Le kb k)
    (hct : (∀ b, v.ownBlock = some b → k b = none) → ∀ k1, Le k k1 → Row F.w0.heap.size k1 et sz v m xs → CTMN P g (first ++ vs.toArray ++ cap) k1 F.w0.heap.size (fun b => v.ownBlock = some b) (fun k' u => Row F.w0.heap.size k' et sz u m' xs' ∧ φ k' u ∧ ∀ g, u.ownBlock = some g → v.ownBlock = some g ∨ k1 g = none)) :
    EffS P F n ops (XG F.w0.heap.size et sz v m xs) 0 o e k (.such fun k' v' => Row F.w0.heap.size k' et sz v' m' xs' ∧ φ k' v' ∧ Apart kb v') := by
  refine ⟨fun k k' v hle h => ⟨h.1.le hle, hφm _ _ _ hle h.2.1, h.2.2⟩, hg, fun a w k1 hk hs hX hsz hlo => ?_⟩
  obtain ⟨hN, hX⟩ := hX
  obtain ⟨hx0, hlack⟩ := hX rfl
  have hev := evs_of hlo
  have hrun := run_call (P := P) (w := w) hop hx ha hev
  have hs2 : St F (fun b => if v.ownBlock = some b then w.heap[b]? else k1 b) w := by
    refine ⟨hs.os, hs.tape, hs.output, hs.size, hs.old, fun b ob hb => ?_, fun b hb hmu => ?_⟩
    · by_cases e : v.ownBlock = some b
      · simpa [e] using hb
      · simp only [e, if_false] at hb
        exact hs.sub b ob hb
    · have : v.ownBlock ≠ some b := fun e => by have := (hx0.block e).1; omega
      simp only [this, if_false]
      exact hs.keep b hb hmu
  have hrow2 : Row F.w0.heap.size (fun b => if v.ownBlock = some b then w.heap[b]? else k1 b) et sz v m xs := hx0.at fun g hg => by simp [hg, wPH]
  have hle : Le k1 (fun b => if v.ownBlock = some b then w.heap[b]? else k1 b) := fun b ob hb => by
    have : v.ownBlock ≠ some b := fun e => by rw [(hlack b e).1] at hb; cases hb
    simp only [this, if_false]
    exact hb
  have hno : ∀ b, v.ownBlock = some b → k b = none := fun b hb => by
    cases hc : k b with
    | none => rfl
    | some ob => have := hk _ _ hc; rw [(hlack b hb).1] at this; cases this
  have hcall := hct hno _ (hk.trans hle) hrow2
  generalize hk2 : (fun b => if v.ownBlock = some b then w.heap[b]? else k1 b) = k2 at hs2 hrow2 hle hcall
  refine (ex_enter (φ := fun u w' => ∃ k', Le k1 k' ∧ St F k' w' ∧ w.heap.size ≤ w'.heap.size ∧ Row F.w0.heap.size k' et sz u m' xs' ∧ φ k' u ∧ Apart kb u) hrun ((hcall w hs2.sub hs.size).mono ?_)).mono ?_
  · rintro en w' ⟨u, k', h1, ⟨h2a, h2b, h2c, h2d⟩, h3, h4, h5, h6, h7, h8⟩
    have hM : ∀ b, v.ownBlock = some b → F.w0.heap.size ≤ b := fun b hb => (hx0.block hb).1
    refine ⟨u, h1, k', fun b ob hb => ?_, ⟨h2a.trans hs.os, h2b.trans hs.tape, h2c.trans hs.output, Nat.le_trans hs.size h2d, fun b hb hm => ?_, h5, fun b hb hm => ?_⟩, h2d, h6, h7, fun gg hgg => ?_⟩
    · have hnm : v.ownBlock ≠ some b := fun hm => by rw [(hlack b hm).1] at hb; cases hb
      rw [h4 b (hs.sub.lt hb) hnm]
      exact hle b ob hb
    · have hnm : v.ownBlock ≠ some b := fun hm' => by have := hM b hm'; omega
      rw [h3 b (Nat.lt_of_lt_of_le hb hs.size) hnm]
      exact hs.old b hb hm
    · have hnm : v.ownBlock ≠ some b := fun hm' => by have := hM b hm'; omega
      rw [h4 b (Nat.lt_of_lt_of_le hb hs.size) hnm]
      exact hs2.keep b hb hm
    · cases hc : kb gg with
      | none => rfl
      | some ob =>
        have hc1 := (hkb.trans hk) _ _ hc
        rcases h8 gg hgg with h9 | h9
        · rw [(hlack gg h9).1] at hc1; cases hc1
        · have hn : v.ownBlock ≠ some gg := fun e => by rw [(hlack gg e).1] at hc1; cases hc1
          rw [if_neg hn, hc1] at h9; cases h9
  · rintro u w' ⟨k', h1, h2, h3, h4, h5, h6⟩
    exact ⟨k', h1, h2, ⟨Nat.le_trans hN h3, fun h => by omega⟩, h4, h5, h6⟩
end
end Go.Wm
namespace Go.Wm
open Go.RowKit Go.Proofs
theorem fence_eq (g : Group) (id : ByteArray) (gen : Int) {i : Nat} (hf : FindAt id g.l i) : wantE (wantE (chkG g) (metAt id g.l i || !true) 230) (decide (gen = g.gen)) 231 = fenceG g id gen := by
  unfold fenceG
  by_cases h : chkG g = 0
  · have hr := chk_right h
    rw [hf.pos hr, met_has hr]
    cases hasId id g.l
    · simp [h, wantE]
    · by_cases h2 : gen = g.gen <;> simp [h, wantE, h2]
  · rw [wantE_ne h, wantE_ne h, if_pos h]
attribute [local irreducible] RG CG EG WA Loc Det Alc CT Exit.then Exit.inBlock Code.wp bodyPost
set_option maxHeartbeats 400000 in
theorem new_ct {k : PH} (n : ByteArray) (hn : n.size ≤ maxLen) : CT Try.prog 14 #[.string n] k (GrpV (newG n)) := by
  refine ct_of_body (l := [_]) Try.func14 rfl Try.ntmps14 (by simp) GrpV.mono fun F hF0 hFm => ?_
  unfold newG
  repeat (first | refine cg_seq ?_ | refine cg_region ?_)
  refine rb rfl rfl rfl rfl (a_alloc rfl) ?_; intro b2 k2 hb2 hN2 hle2 hk2
  repeat (first | refine cg_seq ?_ | refine cg_region ?_ | refine rg_nil ?_ | refine eg_then ?_ | refine qsp ?_)
  refine rs rfl rfl (loc_call_is rfl rfl rfl rfl (name_ct n hn)) ?_
  cases q1 : isName n
  · repeat (first | refine cg_seq ?_ | refine cg_region ?_ | refine rg_nil ?_ | refine eg_then ?_ | refine qsp ?_ | refine cg_cond_true rfl ?_)
    refine rs rfl rfl (loc_det rfl (d_lit (cells := noG.cs none 0) rfl rfl rfl)) ?_
    refine rw1 (vs := noG.cs none 0) rfl rfl rfl rfl rfl rfl rfl hk2 rfl (.inl hN2) (by simp [Group.cs, Value.oneCell']) ?_
    intro k3 ht3 hk3
    repeat (first | refine rg_nil ?_ | refine eg_then ?_ | refine qsp ?_ | refine cg_ret ?_ | refine eg_then_ret ?_)
    exact eg_returnC2 rfl rfl rfl rfl (cells_at (vs := noG.cs none 0) hk3 rfl) rfl ⟨none, 0, rfl, sl_nilM _⟩
  repeat (first | refine cg_seq ?_ | refine cg_region ?_ | refine rg_nil ?_ | refine eg_then ?_ | refine qsp ?_ | refine cg_cond_false rfl ?_ | refine cg_skip ?_)
  refine rs rfl rfl (loc_det rfl (d_lit (cells := (⟨n, 0, 0, []⟩ : Group).cs none 0) rfl rfl rfl)) ?_
  refine rw1 (vs := (⟨n, 0, 0, []⟩ : Group).cs none 0) rfl rfl rfl rfl rfl rfl rfl hk2 rfl (.inl hN2) (by simp [Group.cs, Value.oneCell']) ?_
  intro k3 ht3 hk3
  repeat (first | refine rg_nil ?_ | refine eg_then ?_ | refine qsp ?_ | refine cg_ret ?_)
  exact eg_returnC2 rfl rfl rfl rfl (cells_at (vs := (⟨n, 0, 0, []⟩ : Group).cs none 0) hk3 rfl) rfl ⟨none, 0, rfl, sl_nilM _⟩
set_option maxHeartbeats 1000000 in
theorem fence_ct {k : PH} {g : Group} {a : Option Addr} {c : Nat} (hl : Sl tMember k a c g.l) (hok : g.ok) (hsm : SmallG g) (id : ByteArray) (gen : Int) : CT Try.prog 22 #[.agg (g.cs a c).toArray, .string id, .int .i64 gen] k (fun _ v => v = .int .i64 (fenceG g id gen)) := by
  refine ct_of_body (l := [_, _, _]) Try.func22 rfl Try.ntmps22 (by simp) (fun _ _ _ _ h => h) fun F hF0 hFm => ?_
  have hb : g.l.length ≤ 1000000000000000 := by have := hsm.1; omega
  repeat (first | refine cg_seq ?_ | refine cg_region ?_)
  refine rb rfl rfl rfl rfl (a_box rfl rfl) ?_; intro b1 k1 hb1 hN1 hle1 hk1
  have hl := hl.le hle1
  have cg1 := cells_at (vs := g.cs a c) hk1 rfl
  repeat (first | refine cg_seq ?_ | refine cg_region ?_ | refine rg_nil ?_ | refine eg_then ?_ | refine qsp ?_ | refine qsg ?_)
  refine rvn rfl rfl rfl rfl rfl rfl rfl (keep_ctn hl hok hsm) ?_
  rintro N k2 _ hN2 _ hle2 ⟨bk, KK, v, rfl, hk⟩
  have hbn : F.w0.heap.size ≤ bk := Nat.le_trans hN2 hk.nb
  repeat (first | refine cg_seq ?_ | refine cg_region ?_ | refine rg_nil ?_ | refine eg_then ?_ | refine qsp ?_)
  refine rcm rfl rfl rfl rfl rfl rfl rfl (find_ctm hk hb id true) (fun b hb => .inl (by rw [hb]; exact hbn)) ?_
  rintro _ k3 _ ⟨i, rfl, hfa, h3⟩
  have c1 := (cells_at (vs := kCells g v (wantE (chkG g) (metAt id g.l i || !true) 230)) h3.at' rfl).one (i := 1) rfl
  repeat (first | refine cg_seq ?_ | refine cg_region ?_ | refine rg_nil ?_ | refine eg_then ?_ | refine qsp ?_ | refine qsl ?_ | refine qsf ?_)
  refine rcm rfl rfl rfl rfl rfl rfl rfl (want_ctm h3 (decide (gen = g.gen)) 231) (fun b hb => .inl (by rw [hb]; exact hbn)) ?_
  rintro _ k4 _ ⟨rfl, h4⟩
  rw [fence_eq g id gen hfa] at h4
  have c4 := (cells_at (vs := kCells g v (fenceG g id gen)) h4.at' rfl).one (i := 4) rfl
  repeat (first | refine cg_seq ?_ | refine cg_region ?_ | refine rg_nil ?_ | refine eg_then ?_ | refine qsp ?_ | refine qsl ?_ | refine qsf ?_ | refine cg_ret ?_)
  exact eg_return rfl rfl rfl
end Go.Wm
namespace Go.Wm
open Go.RowKit Go.Proofs
def beatE (g : Group) (id : ByteArray) (gen now : Int) (i : Nat) : Int := wantE (wantE (wantE (wantE (chkG g) (timeOk now) 1) (metAt id g.l i || !true) 230) (metAt id g.l i && ((g.l[i]?).map (·.joined)).getD false) 232) (decide (gen = g.gen)) 231
theorem wantE_cases (e : Int) (b : Bool) (er : Int) (he : er ≠ 0) : (wantE e b er = 0 ↔ e = 0 ∧ b = true) := by
  unfold wantE
  cases b
  · by_cases h : e = 0 <;> simp [h, he]
  · simp
theorem beat_told {g : Group} {id : ByteArray} {gen now : Int} {i : Nat} (hf : FindAt id g.l i) : (beatE g id gen now i ≠ 0 → beatG g id gen now = (noG, beatE g id gen now i)) ∧ (beatE g id gen now i = 0 → ∃ m, g.l[i]? = some m ∧ toldG { g with l := g.l.set i (setBeat now m) } 0 = beatG g id gen now) := by
  unfold beatE beatG
  by_cases h : chkG g = 0
  · have hr := chk_right h
    have hc := chk_all h
    rw [hf.pos hr, met_has hr, h]
    cases h2 : timeOk now
    · simp [wantE]
    cases h3 : hasId id g.l
    · simp [wantE]
    obtain ⟨was, hw, hid⟩ := has_at hr h3
    rw [hw]
    cases h4 : was.joined
    · simp [wantE, h4]
    by_cases h5 : gen = g.gen
    · refine ⟨fun hn => absurd (by simp [wantE, h4, h5]) hn, fun _ => ⟨was, rfl, ?_⟩⟩
      simp only [toldG, h4, h5]
      simp only [ne_eq, not_true_eq_false, if_false, Option.map_some, h4]
      rw [setAt_at hw, stateG_set (m' := setBeat now was) hw rfl, ← hc.state]
      simp
    · simp [wantE, h4, h5]
  · rw [wantE_ne h, wantE_ne h, wantE_ne h, wantE_ne h, if_pos h]
    exact ⟨fun _ => rfl, fun hz => absurd hz h⟩
theorem le_one {k k' : PH} {M : Nat → Prop} (H : ∀ h, Le h k → (∀ b, M b → h b = none) → Le h k') {b : Nat} {o : Obj} (hb : k b = some o) (hn : ¬ M b) : k' b = some o :=
  H (fun x => if x = b then some o else none) (fun x ob hx => by
    by_cases e : x = b
    · subst e; simp at hx; rw [← hx]; exact hb
    · simp [e] at hx) (fun x hx => by
    by_cases e : x = b
    · subst e; exact absurd hx hn
    · simp [e]) b o (by simp)
attribute [local irreducible] RG CG EG WA Loc Det Alc CT Exit.then Exit.inBlock Code.wp bodyPost
set_option maxHeartbeats 2000000 in
theorem beat_ct {k : PH} {g : Group} {a : Option Addr} {c : Nat} (hl : Sl tMember k a c g.l) (hok : g.ok) (hsm : SmallG g) (id : ByteArray) (gen now : Int) (hI : I64 now) : CT Try.prog 20 #[.agg (g.cs a c).toArray, .string id, .int .i64 gen, .int .i64 now] k (GrpV (beatG g id gen now)) := by
  refine ct_of_body (l := [_, _, _, _]) Try.func20 rfl Try.ntmps20 (by simp) GrpV.mono fun F hF0 hFm => ?_
  have hb : g.l.length ≤ 1000000000000000 := by have := hsm.1; omega
  repeat (first | refine cg_seq ?_ | refine cg_region ?_)
  refine rb rfl rfl rfl rfl (a_box rfl rfl) ?_; intro b1 k1 hb1 hN1 hle1 hk1
  skip
  refine rb rfl rfl rfl rfl (a_alloc rfl) ?_; intro b2 k2 hb2 hN2 hle2 hk2
  have hl := hl.le hle1
  have cg1 := (cells_at (vs := g.cs a c) hk1 rfl).le hle2
  repeat (first | refine cg_seq ?_ | refine cg_region ?_ | refine rg_nil ?_ | refine eg_then ?_ | refine qsp ?_ | refine qsg ?_)
  refine rvnh rfl rfl rfl rfl rfl rfl rfl hle2 (keep_ctn hl hok hsm) ?_
  rintro N k0 k3 _ hN3 hnew _ hold hle3 hle03 ⟨bk, KK, v, rfl, h3⟩
  have hK2 : KK b2 = none := by
    cases hc : KK b2 with
    | none => rfl
    | some ob => have := h3.le _ _ hc; rw [hold b2 _ hk2, hb2] at this; cases this
  have h3 := h3.up hle03
  have hbn : F.w0.heap.size ≤ bk := Nat.le_trans hN3 h3.nb
  have om : ∀ b, b = bk → F.w0.heap.size ≤ b ∨ F.mu b := fun b hb => .inl (by rw [hb]; exact hbn)
  have n2 : ¬ b2 = bk := fun e => by have := hnew bk h3.nb; rw [← e, hk2] at this; cases this
  have r3 := hle3 _ _ hk2
  repeat (first | refine cg_seq ?_ | refine cg_region ?_ | refine rg_nil ?_ | refine eg_then ?_ | refine qsp ?_)
  refine rs rfl rfl (loc_call_is rfl rfl rfl rfl (time_ct now)) ?_
  refine rcm rfl rfl rfl rfl rfl rfl rfl (want_ctm h3 (timeOk now) 1) om ?_
  rintro _ k4 hle4 ⟨rfl, h4⟩
  have r4 := le_one hle4 r3 n2
  repeat (first | refine cg_seq ?_ | refine cg_region ?_ | refine rg_nil ?_ | refine eg_then ?_ | refine qsp ?_)
  refine rcm rfl rfl rfl rfl rfl rfl rfl (find_ctm h4 hb id true) om ?_
  rintro _ k5 hle5 ⟨i, rfl, hfa, h5⟩
  have r5 := le_one hle5 r4 n2
  have hbt := beat_told (gen := gen) (now := now) hfa
  unfold beatE at hbt
  clear hle3 hle4 hle5 r3 r4 h3 h4 hk2 hle2 hle1 cg1 hk1 hl
  generalize wantE (wantE (chkG g) (timeOk now) 1) (metAt id g.l i || !true) 230 = e5 at h5 hbt
  obtain ⟨a5, c5, rfl, hsl5⟩ := h5.sl
  have ck := (cells_at (vs := kCells g (.slice a5 g.l.length c5) e5) h5.at' rfl).one (i := 3) rfl
  have bl := hsl5.cap; have bm := hsl5.max; unfold maxLen at bm
  obtain ⟨jn, hjn⟩ : ∃ jn, (metAt id g.l i && ((g.l[i]?).map (·.joined)).getD false) = jn := ⟨_, rfl⟩
  rw [hjn] at hbt
  repeat (first | refine cg_seq ?_ | refine cg_region ?_ | refine rg_nil ?_ | refine eg_then ?_ | refine qsp ?_)
  apply meetR (k := k5) [(25, .is (.pointer (some ⟨bk, 0, none⟩))), (37, .is (.bool jn)), (10, .is (.pointer (some ⟨bk, 0, none⟩))), (11, .is (.int .i64 (i : Int))), (2, .is (.int .i64 gen)), (3, .is (.int .i64 now)), (8, .is (.pointer (some ⟨b2, 0, none⟩)))] True
  · intro go
    cases q : metAt id g.l i
    · rw [q] at hjn
      repeat (first | refine qsp ?_ | refine qso ?_)
      exact go _ trivial ⟨rfl, by rw [← hjn]; rfl, rfl, rfl, rfl, rfl, rfl, trivial⟩
    · rw [q] at hjn
      have hlt : i < g.l.length := by
        unfold metAt at q
        have q := of_decide_eq_true q
        apply Classical.byContradiction
        intro hn
        rw [List.getElem?_eq_none (by omega)] at q; cases q
      obtain ⟨bx, ox, cx, ea, ⟨a0, c0, a1, c1, rfl, ⟨hsub, hown⟩, hmok⟩, hcx⟩ := hsl5.el i g.l[i] (List.getElem?_eq_getElem hlt)
      subst ea
      rw [List.getElem?_eq_getElem hlt] at hjn
      obtain ⟨m, hm⟩ : ∃ m, g.l[i] = m := ⟨_, rfl⟩
      rw [hm] at hjn hcx hsub hown hmok
      have hjn : m.joined = jn := hjn
      obtain ⟨p0, p1, p2, p3, p4, p5⟩ := Member.parts hcx
      repeat (first | refine qsp ?_ | refine qsi ?_ | refine qsl ?_ | refine qsf ?_)
      exact go _ trivial ⟨rfl, by rw [← hjn]; rfl, rfl, rfl, rfl, rfl, rfl, trivial⟩
  rintro -
  skip
  refine rcm rfl rfl rfl rfl rfl rfl rfl (want_ctm h5 jn 232) om ?_
  rintro _ k6 hle6 ⟨rfl, h6⟩
  have r6 := le_one hle6 r5 n2
  have c1 := (cells_at (vs := kCells g (.slice a5 g.l.length c5) (wantE e5 jn 232)) h6.at' rfl).one (i := 1) rfl
  repeat (first | refine cg_seq ?_ | refine cg_region ?_ | refine rg_nil ?_ | refine eg_then ?_ | refine qsp ?_ | refine qsl ?_ | refine qsf ?_)
  refine rcm rfl rfl rfl rfl rfl rfl rfl (want_ctm h6 (decide (gen = g.gen)) 231) om ?_
  rintro _ k7 hle7 ⟨rfl, h7⟩
  have r7 := le_one hle7 r6 n2
  clear c1 h6 r6 hle6 hle7 r5 h5 ck hsl5
  generalize wantE (wantE e5 jn 232) (decide (gen = g.gen)) 231 = e7 at h7 hbt
  have c4 := (cells_at (vs := kCells g (.slice a5 g.l.length c5) e7) h7.at' rfl).one (i := 4) rfl
  repeat (first | refine cg_seq ?_ | refine cg_region ?_ | refine rg_nil ?_ | refine eg_then ?_ | refine qsp ?_ | refine qsl ?_ | refine qsf ?_)
  refine cg_cond rfl (fun hz => ?_) (fun hz => ?_)
  · have hz : e7 = 0 := by simpa using hz
    obtain ⟨m, hm, hto⟩ := hbt.2 hz
    obtain ⟨hlt', hme⟩ := List.getElem?_eq_some_iff.1 hm
    obtain ⟨css, u1, u2, u3⟩ := h7.row
    have hcl : css.length = g.l.length := u1.1
    have hcs := List.getElem?_eq_getElem (show i < css.length by omega)
    obtain ⟨a0, c0, a1, c1, hce, hsl4, hmok⟩ := u1.2 i _ _ hcs hm
    rw [hce] at hcs
    obtain ⟨gb, cap, cur, hve, hgN, hkg, hglt, hcg, hset⟩ := Row.cell (i := i) (j := 5) (cs := m.cs a0 c0 a1 c1) u2 (fun y hy => u1.len y hy) hcs (by omega)
    cases hve
    have hne : gb ≠ bk := fun e => by rw [e, h7.at'] at hkg; cases hkg
    have hng : b2 ≠ gb := fun e => by rw [← e, r7] at hkg; cases hkg
    have hKg : KK gb = none := h7.ap gb rfl
    have ck := (cells_at (vs := kCells g (.slice (some ⟨gb, 0, none⟩) g.l.length c5) e7) h7.at' rfl).one (i := 3) rfl
    repeat (first | refine cg_region ?_ | refine qsp ?_ | refine qsi ?_ | refine qsl ?_ | refine qsf ?_)
    refine rw0 rfl rfl rfl rfl rfl rfl rfl rfl hkg (show 0 + i * 6 + 5 < cur.size by omega) (.inl (Nat.le_trans hN3 hgN)) ?_; intro k8 ht8 hk8
    have hrow8 := hset k8 (.int .i64 now) ht8 (by rw [hk8]; simp)
    have r8 := turn1_get ht8 (Ne.symm (Ne.symm hng)) r7
    have h8 : KeepAt N KK k8 bk (.slice (some ⟨gb, 0, none⟩) g.l.length c5) { g with l := g.l.set i (setBeat now m) } e7 := by
      refine ⟨turn1_get ht8 (Ne.symm hne) h7.at', h7.nb, ht8 KK h7.le hKg, h7.kb, h7.ap, css.set i ((m.cs a0 c0 a1 c1).set 5 (.int .i64 now)), u1.set i ⟨a0, c0, a1, c1, rfl, hsl4, hmok.1, hmok.2.1, hmok.2.2.1, hmok.2.2.2.1, hmok.2.2.2.2.1, ?_⟩, ?_, ?_⟩
      · exact hI
      · show Row N k8 28 6 _ (g.l.set i (setBeat now m)).length _
        rw [List.length_set]; exact hrow8
      · exact u3.set hcs hm (fun x => ⟨x.own, x.subs⟩) rfl
    rw [hz] at h8
    repeat (first | refine cg_seq ?_ | refine cg_region ?_ | refine rg_nil ?_ | refine eg_then ?_ | refine qsp ?_)
    refine rcm rfl rfl rfl rfl rfl rfl rfl (told_ctm h8.to0) om ?_
    rintro _ k9 hle9 ⟨a9, c9, css9, rfl, hp9, hr9⟩
    rw [hto] at hp9 hr9 ⊢
    have r9 := le_one hle9 r8 n2
    have hK9 := hle9 KK h8.le (fun b hb => by rw [hb]; exact h8.kb)
    repeat (first | refine qsp ?_)
    refine rw1 (vs := (beatG g id gen now).1.cs a9 c9) rfl rfl rfl rfl rfl rfl rfl r9 rfl (.inl hN2) (by simp [Group.cs, Value.oneCell']) ?_
    intro k10 ht10 hk10
    repeat (first | refine rg_nil ?_ | refine eg_then ?_ | refine qsp ?_ | refine cg_ret ?_)
    exact eg_returnC2 rfl rfl rfl rfl (cells_at (vs := (beatG g id gen now).1.cs a9 c9) hk10 rfl) rfl ⟨a9, c9, rfl, GrpR.sl hp9 (hr9.turnY ht10 r9 (by decide)) (ht10 KK hK9 hK2)⟩
  · have hz : e7 ≠ 0 := by simpa using hz
    have hto : toldG g e7 = beatG g id gen now := by rw [toldG_ne hz, hbt.1 hz]
    repeat (first | refine cg_seq ?_ | refine cg_region ?_ | refine eg_then ?_ | refine qsp ?_ | refine cg_skip ?_)
    refine rcm rfl rfl rfl rfl rfl rfl rfl (told_ctm h7.to0) om ?_
    rintro _ k9 hle9 ⟨a9, c9, css9, rfl, hp9, hr9⟩
    rw [hto] at hp9 hr9 ⊢
    have r9 := le_one hle9 r7 n2
    have hK9 := hle9 KK h7.le (fun b hb => by rw [hb]; exact h7.kb)
    repeat (first | refine qsp ?_)
    refine rw1 (vs := (beatG g id gen now).1.cs a9 c9) rfl rfl rfl rfl rfl rfl rfl r9 rfl (.inl hN2) (by simp [Group.cs, Value.oneCell']) ?_
    intro k10 ht10 hk10
    repeat (first | refine rg_nil ?_ | refine eg_then ?_ | refine qsp ?_ | refine cg_ret ?_)
    exact eg_returnC2 rfl rfl rfl rfl (cells_at (vs := (beatG g id gen now).1.cs a9 c9) hk10 rfl) rfl ⟨a9, c9, rfl, GrpR.sl hp9 (hr9.turnY ht10 r9 (by decide)) (ht10 KK hK9 hK2)⟩
end Go.Wm

/-
  New, Fence, Beat, the program's. Conditions: that what is handed in reads as data.
-/
import Derived.Test.YtbhgbfhgdccghaaK3
import Derived.Test.YtbhgbfhgdccghaaP10
import Derived.Test.YtbhgbfhgdccghaaJ1
import Derived.Test.YtbhgbfhgdccghaaSto2
import Derived.Test.YtbhgbfhgdccghaaN7
set_option linter.all false
namespace Go.Wm
open Go.RowKit Go.Proofs
structure LOk (l : List Member) : Prop where
  right : RightP ordId memOk l
  stat : (statics l).Nodup
  own : (owns l).Nodup
theorem right_all {l : List Member} : RightP ordId memOk l ↔ (∀ x ∈ l, memOk x = true) ∧ l.Pairwise fun a b => ordId a b < 0 := right_iff ordL_id
theorem statics_perm {l l' : List Member} (h : l.Perm l') : (statics l).Perm (statics l') := (h.map _).filter _
theorem owns_perm {l l' : List Member} (h : l.Perm l') : (owns l).Perm (owns l') := h.flatMap_right _
theorem statics_cons (x : Member) (l : List Member) : statics (x :: l) = (if x.static = ⟨#[]⟩ then [] else [x.static]) ++ statics l := by
  unfold statics
  rw [List.map_cons, List.filter_cons]
  by_cases h : x.static = ⟨#[]⟩ <;> simp [h]
theorem owns_cons (x : Member) (l : List Member) : owns (x :: l) = x.own ++ owns l := rfl
theorem ownsSub {l l' : List Member} (h : l'.Sublist l) : (owns l').Sublist (owns l) := by
  induction h with
  | slnil => exact List.Sublist.refl _
  | cons a h ih => rw [owns_cons]; exact ih.trans (List.sublist_append_right _ _)
  | cons_cons a h ih => rw [owns_cons, owns_cons]; exact (List.Sublist.refl _).append ih
theorem LOk.sub {l l' : List Member} (h : LOk l) (hs : l'.Sublist l) : LOk l' := by
  obtain ⟨h1, h2⟩ := right_all.1 h.right
  refine ⟨right_all.2 ⟨fun x hx => h1 x (hs.subset hx), h2.sublist hs⟩, h.stat.sublist ((hs.map _).filter _), h.own.sublist (ownsSub hs)⟩
theorem memOk_unjoin (m : Member) : memOk (unjoin m) = memOk m := rfl
theorem statics_unjoin (l : List Member) : statics (l.map unjoin) = statics l := by
  unfold statics; rw [List.map_map]; rfl
theorem owns_unjoin (l : List Member) : owns (l.map unjoin) = owns l := by
  unfold owns; rw [List.flatMap_map]; rfl
theorem LOk.unjoin {l : List Member} (h : LOk l) : LOk (l.map unjoin) := by
  obtain ⟨h1, h2⟩ := right_all.1 h.right
  refine ⟨right_all.2 ⟨fun x hx => ?_, ?_⟩, by rw [statics_unjoin]; exact h.stat, by rw [owns_unjoin]; exact h.own⟩
  · obtain ⟨y, hy, rfl⟩ := List.mem_map.1 hx
    rw [memOk_unjoin]; exact h1 y hy
  · exact List.pairwise_map.2 h2
theorem hasId_false {id : ByteArray} {l : List Member} : hasId id l = false ↔ ∀ m ∈ l, m.id ≠ id := by
  unfold hasId; simp
theorem hasId_true {id : ByteArray} {l : List Member} : hasId id l = true ↔ ∃ m ∈ l, m.id = id := by
  unfold hasId; simp
theorem ins_perm (x : Member) (l : List Member) : (insM x l).Perm (x :: l) := by
  unfold insM
  refine List.perm_middle.trans ?_
  rw [List.take_append_drop]
theorem mem_ins {x y : Member} {l : List Member} : y ∈ insM x l ↔ y = x ∨ y ∈ l := by
  rw [(ins_perm x l).mem_iff]; simp
theorem not_met {id : ByteArray} {l : List Member} (h : RightP ordId memOk l) (hn : hasId id l = false) (x : Member) (hx : x.id = id) : ¬ metF (fun y => ordId y x) l = true := by
  rw [right_met ordL_id h x]
  intro ha
  obtain ⟨y, hy, hz⟩ := List.any_eq_true.1 ha
  have hz : cmpStr y.id x.id = 0 := of_decide_eq_true hz
  exact hasId_false.1 hn y hy (by rw [cmpStr_eq.1 hz, hx])
theorem LOk.ins {l : List Member} {x : Member} (h : LOk l) (hx : memOk x = true) (hid : hasId x.id l = false) (hst : x.static = ⟨#[]⟩ ∨ ∀ m ∈ l, m.static ≠ x.static) (how : ∀ t ∈ x.own, t ∉ owns l) : LOk (insM x l) := by
  obtain ⟨h1, h2⟩ := right_all.1 h.right
  have hn := not_met h.right hid x rfl
  refine ⟨right_all.2 ⟨fun y hy => ?_, ?_⟩, ?_, ?_⟩
  · rcases mem_ins.1 hy with rfl | hy
    · exact hx
    · exact h1 y hy
  · have hb : ∀ y ∈ l.take (posF (byId x.id) l), ordId y x < 0 := fun y hy => take_below (f := byId x.id) y hy
    have ha : ∀ y ∈ l.drop (posF (byId x.id) l), ordId x y < 0 := drop_above ordL_id h2 hn
    unfold insM
    rw [List.pairwise_append]
    refine ⟨h2.sublist (List.take_sublist _ _), List.pairwise_cons.2 ⟨ha, h2.sublist (List.drop_sublist _ _)⟩, fun a ha' b hb' => ?_⟩
    rcases List.mem_cons.1 hb' with rfl | hb'
    · exact hb a ha'
    · exact ordL_id.tr _ _ _ (hb a ha') (ha b hb')
  · rw [(statics_perm (ins_perm x l)).nodup_iff, statics_cons]
    by_cases he : x.static = ⟨#[]⟩
    · rw [if_pos he]; exact h.stat
    · rw [if_neg he]
      refine List.nodup_cons.2 ⟨fun hm => ?_, h.stat⟩
      unfold statics at hm
      obtain ⟨hm, _⟩ := List.mem_filter.1 hm
      obtain ⟨y, hy, hye⟩ := List.mem_map.1 hm
      rcases hst with hst | hst
      · exact he hst
      · exact hst y hy hye
  · rw [(owns_perm (ins_perm x l)).nodup_iff, owns_cons]
    refine List.nodup_append.2 ⟨?_, h.own, fun a ha b hb e => how a ha (e ▸ hb)⟩
    have hr : RightP ordTp tpOk x.own := by
      unfold memOk at hx
      simp only [Bool.and_eq_true, decide_eq_true_eq] at hx
      exact hx.2.2.2.2.2
    exact ((right_iff ordL_tp).1 hr).2.imp fun {a b} hlt he => by rw [he, ordTp_eq.2 rfl] at hlt; omega
theorem del_sub (i : Nat) (l : List Member) : (delM i l).Sublist l := by
  unfold delM
  rw [← List.eraseIdx_eq_take_drop_succ]
  exact List.eraseIdx_sublist _ _
theorem del_perm {i : Nat} {l : List Member} {was : Member} (h : l[i]? = some was) : l.Perm (was :: delM i l) := by
  obtain ⟨hi, rfl⟩ := List.getElem?_eq_some_iff.1 h
  unfold delM
  have e : l.take i ++ l[i] :: l.drop (i + 1) = l := by rw [← List.drop_eq_getElem_cons hi, List.take_append_drop]
  exact (by rw [e] : l.Perm (l.take i ++ l[i] :: l.drop (i + 1))).trans List.perm_middle
theorem del_len {i : Nat} {l : List Member} {was : Member} (h : l[i]? = some was) : (delM i l).length + 1 = l.length := by
  have := (del_perm h).length_eq
  simpa using this.symm
/-- Who stands where it is looked for. -/
theorem has_at {id : ByteArray} {l : List Member} (h : RightP ordId memOk l) (hh : hasId id l = true) : ∃ was, l[posF (byId id) l]? = some was ∧ was.id = id := by
  rw [← met_has h] at hh
  unfold metAt at hh
  have hh := of_decide_eq_true hh
  cases e : l[posF (byId id) l]? with
  | none => rw [e] at hh; cases hh
  | some was =>
    rw [e] at hh
    refine ⟨was, rfl, cmpStr_eq.1 ?_⟩
    simpa [byId] using hh
theorem chk_lok {g : Group} (h : ChkG g) : LOk g.l := ⟨h.right, h.stat, h.own⟩
theorem memOk_right {m : Member} (h : memOk m = true) : RightP ordTp tpOk m.own := by
  unfold memOk at h
  simp only [Bool.and_eq_true, decide_eq_true_eq] at h
  exact h.2.2.2.2.2
theorem rightTp_sub {l l' : List Tp} (h : RightP ordTp tpOk l) (hs : l'.Sublist l) : RightP ordTp tpOk l' := by
  obtain ⟨h1, h2⟩ := (right_iff ordL_tp).1 h
  exact (right_iff ordL_tp).2 ⟨fun x hx => h1 x (hs.subset hx), h2.sublist hs⟩
theorem own_del {l : List Member} {i : Nat} {was : Member} (h : LOk l) (hi : l[i]? = some was) : ∀ t ∈ was.own, t ∉ owns (delM i l) := by
  have := (owns_perm (del_perm hi)).nodup_iff.1 h.own
  rw [owns_cons] at this
  intro t ht hm
  exact (List.nodup_append.1 this).2.2 t ht t hm rfl
/-- The ways a member may join. -/
inductive JoinR (g : Group) (m : Member) (now : Int) : Group × Int → Prop
  | bad {e : Int} (h : chkG g ≠ 0) (he : e = chkG g) : JoinR g m now (noG, e)
  | arg (h : ChkG g) (h2 : memOk { m with beat := now, joined := true } = false ∨ ∃ was ∈ g.l, was.id = m.id ∧ was.static ≠ m.static) : JoinR g m now (noG, 1)
  | back {i : Nat} {was : Member} (h : ChkG g) (h2 : memOk { m with beat := now, joined := true } = true) (hi : g.l[i]? = some was) (hid : was.id = m.id) (hst : was.static = m.static) : JoinR g m now (finJ g (delM i g.l) { m with beat := now, joined := true, own := metOf was.own m.own } (decide (g.state = 2)))
  | stays {i : Nat} {was : Member} (h : ChkG g) (h2 : memOk { m with beat := now, joined := true } = true) (hno : hasId m.id g.l = false) (hi : g.l[i]? = some was) (hs : m.static ≠ ⟨#[]⟩) (hst : was.static = m.static) : JoinR g m now (finJ g (delM i g.l) { m with beat := now, joined := true, own := was.own } (decide (g.state = 2) && !decide (was.subs = m.subs)))
  | many (h : ChkG g) (hn : g.l.length = 64) : JoinR g m now (noG, 2)
  | new (h : ChkG g) (h2 : memOk { m with beat := now, joined := true } = true) (hno : hasId m.id g.l = false) (hs : m.static = ⟨#[]⟩ ∨ ∀ x ∈ g.l, x.static ≠ m.static) (hn : g.l.length < 64) : JoinR g m now (finJ g g.l { m with beat := now, joined := true, own := [] } (decide (g.state ≠ 1)))
end Go.Wm
namespace Go.Wm
open Go.RowKit Go.Proofs
def gotS (l : List Member) (tps : List Tp) (w : List Int) (p : Nat) : List Tp := (roundM l (outM l.length tps w)).getD p []
/-- What Sync tells. -/
structure SyncR (g : Group) (id : ByteArray) (gen now : Int) (tps : List Tp) (x : Group) (own : List Tp) (e : Int) : Prop where
  no : syncE g id gen now tps ≠ 0 → x = noG ∧ own = [] ∧ e = syncE g id gen now tps
  yes : syncE g id gen now tps = 0 → ∃ w, IsTgt g.l tps w ∧ own = gotS g.l tps w (posF (byId id) g.l) ∧ x = { g with l := setAt (posF (byId id) g.l) (setOwn own now) g.l } ∧ e = 0
theorem SyncR.same {g : Group} {id : ByteArray} {gen now : Int} {tps : List Tp} {x x' : Group} {own own' : List Tp} {e e' : Int} (h : SyncR g id gen now tps x own e) (h' : SyncR g id gen now tps x' own' e') : x = x' ∧ own = own' ∧ e = e' := by
  by_cases hz : syncE g id gen now tps = 0
  · obtain ⟨w, h1, h2, h3, h4⟩ := h.yes hz
    obtain ⟨w', k1, k2, k3, k4⟩ := h'.yes hz
    rw [h1.same k1] at h2
    have : own = own' := by rw [h2, k2]
    subst this
    exact ⟨by rw [h3, k3], rfl, by rw [h4, k4]⟩
  · obtain ⟨h1, h2, h3⟩ := h.no hz
    obtain ⟨k1, k2, k3⟩ := h'.no hz
    exact ⟨by rw [h1, k1], by rw [h2, k2], by rw [h3, k3]⟩
theorem set_perm {l : List Member} {p : Nat} {m m' : Member} (h : l[p]? = some m) : (l.set p m').Perm (m' :: delM p l) := by
  obtain ⟨hp, rfl⟩ := List.getElem?_eq_some_iff.1 h
  rw [List.set_eq_take_append_cons_drop, if_pos hp]
  exact List.perm_middle
theorem map_set_same {α : Type} {f : Member → α} {l : List Member} {p : Nat} {m m' : Member} (h : l[p]? = some m) (he : f m' = f m) : (l.set p m').map f = l.map f := by
  apply List.ext_getElem?
  intro i
  rw [List.getElem?_map, List.getElem?_map, List.getElem?_set]
  by_cases hi : p = i
  · subst hi
    obtain ⟨hlt, hpe⟩ := List.getElem?_eq_some_iff.1 h
    rw [if_pos rfl, if_pos hlt, h]
    simp [he]
  · rw [if_neg hi]
theorem LOk.set {l : List Member} {p : Nat} {m m' : Member} (h : LOk l) (hp : l[p]? = some m) (hid : m'.id = m.id) (hst : m'.static = m.static) (hok : memOk m' = true) (how : ∀ t ∈ m'.own, t ∉ owns (delM p l)) : LOk (l.set p m') := by
  obtain ⟨h1, h2⟩ := right_all.1 h.right
  obtain ⟨hlt, hpe⟩ := List.getElem?_eq_some_iff.1 hp
  have hids : (l.set p m').map (·.id) = l.map (·.id) := map_set_same hp hid
  have hsts : (l.set p m').map (·.static) = l.map (·.static) := map_set_same hp hst
  have pw : ∀ l : List Member, (l.Pairwise fun a b => ordId a b < 0) ↔ (l.map (·.id)).Pairwise fun a b => cmpStr a b < 0 := fun l => (List.pairwise_map (f := fun m : Member => m.id) (R := fun a b => cmpStr a b < 0)).symm
  refine ⟨right_all.2 ⟨fun x hx => ?_, ?_⟩, ?_, ?_⟩
  · rcases List.mem_or_eq_of_mem_set hx with hx | rfl
    · exact h1 x hx
    · exact hok
  · rw [pw, hids, ← pw]; exact h2
  · unfold statics; rw [hsts]; exact h.stat
  · rw [(owns_perm (set_perm (m' := m') hp)).nodup_iff, owns_cons]
    refine List.nodup_append.2 ⟨?_, h.own.sublist (ownsSub (del_sub p l)), fun a ha b hb e => how a ha (e ▸ hb)⟩
    exact ((right_iff ordL_tp).1 (memOk_right hok)).2.imp fun {a b} hlt he => by rw [he, ordTp_eq.2 rfl] at hlt; omega
theorem outM_subl {n i : Nat} {tps : List Tp} {w : List Int} {r : List Tp} (hw : w.length = tps.length) (h : (outM n tps w)[i]? = some r) : r.Sublist tps := by
  have hi : i < n := by
    have := (List.getElem?_eq_some_iff.1 h).1
    rwa [outM_len] at this
  rw [outM_get hi] at h
  cases h
  have := (List.filter_sublist (p := fun x : Tp × Int => decide (x.2 = (i : Int))) (l := tps.zip w)).map (·.1)
  rwa [List.map_fst_zip (by omega)] at this
theorem gotS_eq {l : List Member} {tps : List Tp} {w : List Int} {p : Nat} (hp : p < l.length) : gotS l tps w p = ((outM l.length tps w).getD p []).filter (giveB l p) := by
  unfold gotS roundM
  rw [List.getD_eq_getElem?_getD, List.getElem?_map, List.getElem?_range hp]
  rfl
theorem gotS_sub {l : List Member} {tps : List Tp} {w : List Int} {p : Nat} (hp : p < l.length) (hw : w.length = tps.length) : (gotS l tps w p).Sublist tps := by
  rw [gotS_eq hp]
  have hl : p < (outM l.length tps w).length := by rw [outM_len]; exact hp
  rw [List.getD_eq_getElem?_getD, List.getElem?_eq_getElem hl]
  exact List.filter_sublist.trans (outM_subl hw (List.getElem?_eq_getElem hl))
theorem mem_owns {t : Tp} {l : List Member} : t ∈ owns l ↔ ∃ m ∈ l, t ∈ m.own := by unfold owns; rw [List.mem_flatMap]
theorem gotS_give {l : List Member} {tps : List Tp} {w : List Int} {p : Nat} {m : Member} (hm : l[p]? = some m) {t : Tp} (ht : t ∈ gotS l tps w p) : t ∈ m.own ∨ t ∉ owns l := by
  obtain ⟨hp, _⟩ := List.getElem?_eq_some_iff.1 hm
  rw [gotS_eq hp] at ht
  have := (List.mem_filter.1 ht).2
  unfold giveB at this
  rw [hm] at this
  rcases Bool.or_eq_true_iff.1 this with h | h
  · exact .inl (by simpa using h)
  · refine .inr fun hin => ?_
    obtain ⟨x, hx, hxt⟩ := mem_owns.1 hin
    have : (l.any fun m => decide (t ∈ m.own)) = true := List.any_eq_true.2 ⟨x, hx, by simpa using hxt⟩
    rw [this] at h; cases h
theorem sync_keep {l : List Member} {tps : List Tp} {w : List Int} {p : Nat} {m : Member} {now : Int} (h : LOk l) (hm : l[p]? = some m) (htp : RightP ordTp tpOk tps) (hw : w.length = tps.length) (ht : timeOk now = true) : LOk (l.set p (setOwn (gotS l tps w p) now m)) := by
  obtain ⟨hp, hpe⟩ := List.getElem?_eq_some_iff.1 hm
  refine h.set hm rfl rfl ?_ ?_
  · have hk := (right_all.1 h.right).1 m (List.mem_of_getElem? hm)
    have h2 := rightTp_sub htp (gotS_sub hp hw)
    unfold memOk at hk ⊢
    simp only [Bool.and_eq_true, decide_eq_true_eq] at hk ⊢
    exact ⟨hk.1, hk.2.1, ht, hk.2.2.2.1, hk.2.2.2.2.1, h2⟩
  · intro t htm hin
    rcases gotS_give hm htm with h1 | h1
    · exact own_del h hm t h1 hin
    · exact h1 (((ownsSub (del_sub p l)).subset hin : _))
theorem stateG_set {l : List Member} {p : Nat} {m m' : Member} (h : l[p]? = some m) (hj : m'.joined = m.joined) : stateG (l.set p m') = stateG l := by
  unfold stateG
  rw [List.length_set]
  have : (l.set p m').any (fun m => !m.joined) = l.any fun m => !m.joined := by
    have e : ∀ l : List Member, l.any (fun m => !m.joined) = (l.map (·.joined)).any fun b => !b := fun l => by rw [List.any_map]; rfl
    rw [e, e, map_set_same h hj]
  rw [this]
theorem syncE_zero {g : Group} {id : ByteArray} {gen now : Int} {tps : List Tp} (h : syncE g id gen now tps = 0) : ChkG g ∧ timeOk now = true ∧ RightP ordTp tpOk tps ∧ hasId id g.l = true ∧ g.state ≠ 1 ∧ gen = g.gen := by
  unfold syncE at h
  split at h
  · rename_i h1; exact absurd h h1
  rename_i h1
  split at h
  · cases h
  rename_i h2
  split at h
  · cases h
  rename_i h3
  split at h
  · cases h
  rename_i h4
  split at h
  · cases h
  rename_i h5
  simp only [Bool.not_eq_false, Bool.and_eq_true, decide_eq_true_eq] at h2 h3
  exact ⟨chk_all (Decidable.not_not.1 h1), h2.1, h2.2, h3, h4, Decidable.not_not.1 h5⟩
theorem sync_ok {g x : Group} {id : ByteArray} {gen now : Int} {tps own : List Tp} {e : Int} (h : SyncR g id gen now tps x own e) (he : e = 0) : ChkG x := by
  by_cases hz : syncE g id gen now tps = 0
  · obtain ⟨w, h1, h2, h3, h4⟩ := h.yes hz
    obtain ⟨c1, c2, c3, c4, c5, c6⟩ := syncE_zero hz
    obtain ⟨was, hw, hid⟩ := has_at c1.right c4
    rw [h3, setAt_at hw, h2]
    have hk := sync_keep (chk_lok c1) hw c3 h1.inv.len c2
    exact ⟨by show (g.l.set _ _).length ≤ 64; rw [List.length_set]; exact c1.few, c1.name, c1.gen0, c1.gen1, by show g.state = stateG (g.l.set _ _); rw [stateG_set (m' := setOwn _ now was) hw rfl]; exact c1.state, hk.right, hk.stat, hk.own⟩
  · obtain ⟨h1, h2, h3⟩ := h.no hz
    rw [h3] at he; exact absurd he hz
end Go.Wm
namespace Go.Wm
open Go.RowKit
section
variable {P : Program} {F : Fr} {n : Nat} {ops : Array Oper} {Q : Exit → Act → World → Prop} {rest : List Oper} {o : Oper} {e : Env} {k : PH}
theorem EffS.elim {X : Nat → (Nat → Value) → PH → World → Prop} {q : Nat} {p : PV} (t : Nat) {φ : PH → Value → Prop} (hg : get e t = some (.such φ)) (ht : (o.looksAt ops).contains t = true) (hm : p.Mono) (hgd : o.guard = none) (h : ∀ v k1, Le k k1 → φ k1 v → EffS P F n ops X q o ((t, .is v) :: e) k1 p) : EffS P F n ops X q o e k p := by
  refine ⟨hm, hgd, fun a w k1 hk hs hX hsz hl => ?_⟩
  have hv := hl t (List.contains_iff_mem.1 ht) _ hg
  refine (h (a.tmps.getD t undef) k1 hk hv).2.2 a w k1 (Le.refl _) hs hX hsz fun u hu q hq => ?_
  by_cases htu : t = u
  · subst htu
    rw [get_cons_same] at hq
    cases hq
    rfl
  · rw [get_cons_other _ _ htu] at hq
    exact hl u hu q hq
/-- The call, all that it is handed known. -/
theorem eff_callM {x : Operand} {args : Array Operand} {ats : Array TypeId} {g : FuncId} {first cap : Array Value} {vs : List Value} [FnOk P g] {et sz m m' d : Nat} {v : Value} {xs xs' : List Value} {kb : PH} {φ : PH → Value → Prop} (hφm : ∀ k k' v, Le k k' → φ k v → φ k' v)
    (hd : o.dst = some d) (hg : o.guard = none) (hop : o.op = .call { callee := .value x, args := args, argTypes := ats }) (hx : opv e x = some (.func (.func g) first cap)) (ha : opvs e args.toList = some vs) (hkb : Le kb k)
    (hct : (∀ b, v.ownBlock = some b → k b = none) → ∀ k1, Le k k1 → Row F.w0.heap.size k1 et sz v m xs → CTMN P g (first ++ vs.toArray ++ cap) k1 F.w0.heap.size (fun b => v.ownBlock = some b) (fun k' u => Row F.w0.heap.size k' et sz u m' xs' ∧ φ k' u ∧ ∀ g, u.ownBlock = some g → v.ownBlock = some g ∨ k1 g = none)) :
    EffS P F n ops (XG F.w0.heap.size et sz v m xs) 0 o e k (.such fun k' v' => Row F.w0.heap.size k' et sz v' m' xs' ∧ φ k' v' ∧ Apart kb v') := by
  refine ⟨fun k k' v hle h => ⟨h.1.le hle, hφm _ _ _ hle h.2.1, h.2.2⟩, hg, fun a w k1 hk hs hX hsz hlo => ?_⟩
  obtain ⟨hN, hX⟩ := hX
  obtain ⟨hx0, hlack⟩ := hX rfl
  have hev := evs_of hlo
  have hrun := run_call (P := P) (w := w) hop hx ha hev
  have hs2 : St F (fun b => if v.ownBlock = some b then w.heap[b]? else k1 b) w := by
    refine ⟨hs.os, hs.tape, hs.output, hs.size, hs.old, fun b ob hb => ?_, fun b hb hmu => ?_⟩
    · by_cases e : v.ownBlock = some b
      · simpa [e] using hb
      · simp only [e, if_false] at hb
        exact hs.sub b ob hb
    · have : v.ownBlock ≠ some b := fun e => by have := (hx0.block e).1; omega
      simp only [this, if_false]
      exact hs.keep b hb hmu
  have hrow2 : Row F.w0.heap.size (fun b => if v.ownBlock = some b then w.heap[b]? else k1 b) et sz v m xs := hx0.at fun g hg => by simp [hg, wPH]
  have hle : Le k1 (fun b => if v.ownBlock = some b then w.heap[b]? else k1 b) := fun b ob hb => by
    have : v.ownBlock ≠ some b := fun e => by rw [(hlack b e).1] at hb; cases hb
    simp only [this, if_false]
    exact hb
  have hno : ∀ b, v.ownBlock = some b → k b = none := fun b hb => by
    cases hc : k b with
    | none => rfl
    | some ob => have := hk _ _ hc; rw [(hlack b hb).1] at this; cases this
  have hcall := hct hno _ (hk.trans hle) hrow2
  generalize hk2 : (fun b => if v.ownBlock = some b then w.heap[b]? else k1 b) = k2 at hs2 hrow2 hle hcall
  refine (ex_enter (φ := fun u w' => ∃ k', Le k1 k' ∧ St F k' w' ∧ w.heap.size ≤ w'.heap.size ∧ Row F.w0.heap.size k' et sz u m' xs' ∧ φ k' u ∧ Apart kb u) hrun ((hcall w hs2.sub hs.size).mono ?_)).mono ?_
  · rintro en w' ⟨u, k', h1, ⟨h2a, h2b, h2c, h2d⟩, h3, h4, h5, h6, h7, h8⟩
    have hM : ∀ b, v.ownBlock = some b → F.w0.heap.size ≤ b := fun b hb => (hx0.block hb).1
    refine ⟨u, h1, k', fun b ob hb => ?_, ⟨h2a.trans hs.os, h2b.trans hs.tape, h2c.trans hs.output, Nat.le_trans hs.size h2d, fun b hb hm => ?_, h5, fun b hb hm => ?_⟩, h2d, h6, h7, fun gg hgg => ?_⟩
    · have hnm : v.ownBlock ≠ some b := fun hm => by rw [(hlack b hm).1] at hb; cases hb
      rw [h4 b (hs.sub.lt hb) hnm]
      exact hle b ob hb
    · have hnm : v.ownBlock ≠ some b := fun hm' => by have := hM b hm'; omega
      rw [h3 b (Nat.lt_of_lt_of_le hb hs.size) hnm]
      exact hs.old b hb hm
    · have hnm : v.ownBlock ≠ some b := fun hm' => by have := hM b hm'; omega
      rw [h4 b (Nat.lt_of_lt_of_le hb hs.size) hnm]
      exact hs2.keep b hb hm
    · cases hc : kb gg with
      | none => rfl
      | some ob =>
        have hc1 := (hkb.trans hk) _ _ hc
        rcases h8 gg hgg with h9 | h9
        · rw [(hlack gg h9).1] at hc1; cases hc1
        · have hn : v.ownBlock ≠ some gg := fun e => by rw [(hlack gg e).1] at hc1; cases hc1
          rw [if_neg hn, hc1] at h9; cases h9
  · rintro u w' ⟨k', h1, h2, h3, h4, h5, h6⟩
    exact ⟨k', h1, h2, ⟨Nat.le_trans hN h3, fun h => by omega⟩, h4, h5, h6⟩
end
end Go.Wm
namespace Go.Wm
open Go.RowKit Go.Proofs
theorem fence_eq (g : Group) (id : ByteArray) (gen : Int) {i : Nat} (hf : FindAt id g.l i) : wantE (wantE (chkG g) (metAt id g.l i || !true) 230) (decide (gen = g.gen)) 231 = fenceG g id gen := by
  unfold fenceG
  by_cases h : chkG g = 0
  · have hr := chk_right h
    rw [hf.pos hr, met_has hr]
    cases hasId id g.l
    · simp [h, wantE]
    · by_cases h2 : gen = g.gen <;> simp [h, wantE, h2]
  · rw [wantE_ne h, wantE_ne h, if_pos h]
attribute [local irreducible] RG CG EG WA Loc Det Alc CT Exit.then Exit.inBlock Code.wp bodyPost
set_option maxHeartbeats 400000 in
theorem new_ct {k : PH} (n : ByteArray) (hn : n.size ≤ maxLen) : CT Try.prog 14 #[.string n] k (GrpV (newG n)) := by
  refine ct_of_body (l := [_]) Try.func14 rfl Try.ntmps14 (by simp) GrpV.mono fun F hF0 hFm => ?_
  unfold newG
  repeat (first | refine cg_seq ?_ | refine cg_region ?_ | refine rg_nil ?_ | refine eg_then ?_ | refine qsp ?_ | refine qsn ?_ | refine qsa ?_ | refine qss ?_ | refine qsi ?_ | refine qsz ?_ | refine qsl ?_ | refine qsg ?_ | refine qsf ?_ | refine qsd ?_ | refine qsE ?_ | refine qsX ?_ | refine qse ?_ | refine qsx ?_ | refine qso ?_ | refine cg_cond_true rfl ?_ | refine cg_cond_false rfl ?_ | refine cg_skip ?_ | refine cg_block ?_ | refine eg_in_normal ?_ | refine cg_ret ?_ | refine eg_then_ret ?_ | refine eg_in_ret ?_ | refine cg_exit ?_ | refine eg_then_exit ?_ | refine eg_in_exit ?_ | refine eg_in_other rfl ?_)
  refine rb rfl rfl rfl rfl (a_alloc rfl) ?_; intro b2 k2 hb2 hN2 hle2 hk2
  repeat (first | refine cg_seq ?_ | refine cg_region ?_ | refine rg_nil ?_ | refine eg_then ?_ | refine qsp ?_ | refine qsn ?_ | refine qsa ?_ | refine qss ?_ | refine qsi ?_ | refine qsz ?_ | refine qsl ?_ | refine qsg ?_ | refine qsf ?_ | refine qsd ?_ | refine qsE ?_ | refine qsX ?_ | refine qse ?_ | refine qsx ?_ | refine qso ?_ | refine cg_cond_true rfl ?_ | refine cg_cond_false rfl ?_ | refine cg_skip ?_ | refine cg_block ?_ | refine eg_in_normal ?_ | refine cg_ret ?_ | refine eg_then_ret ?_ | refine eg_in_ret ?_ | refine cg_exit ?_ | refine eg_then_exit ?_ | refine eg_in_exit ?_ | refine eg_in_other rfl ?_)
  refine rs rfl rfl (loc_call_is rfl rfl rfl rfl (name_ct n hn)) ?_
  cases q1 : isName n
  · repeat (first | refine cg_seq ?_ | refine cg_region ?_ | refine rg_nil ?_ | refine eg_then ?_ | refine qsp ?_ | refine qsn ?_ | refine qsa ?_ | refine qss ?_ | refine qsi ?_ | refine qsz ?_ | refine qsl ?_ | refine qsg ?_ | refine qsf ?_ | refine qsd ?_ | refine qsE ?_ | refine qsX ?_ | refine qse ?_ | refine qsx ?_ | refine qso ?_ | refine cg_cond_true rfl ?_ | refine cg_cond_false rfl ?_ | refine cg_skip ?_ | refine cg_block ?_ | refine eg_in_normal ?_ | refine cg_ret ?_ | refine eg_then_ret ?_ | refine eg_in_ret ?_ | refine cg_exit ?_ | refine eg_then_exit ?_ | refine eg_in_exit ?_ | refine eg_in_other rfl ?_)
    refine rs rfl rfl (loc_det rfl (d_lit (cells := noG.cs none 0) rfl rfl rfl)) ?_
    refine rw1 (vs := noG.cs none 0) rfl rfl rfl rfl rfl rfl rfl hk2 rfl (.inl hN2) (by simp [Group.cs, Value.oneCell']) ?_
    intro k3 ht3 hk3
    repeat (first | refine cg_seq ?_ | refine cg_region ?_ | refine rg_nil ?_ | refine eg_then ?_ | refine qsp ?_ | refine qsn ?_ | refine qsa ?_ | refine qss ?_ | refine qsi ?_ | refine qsz ?_ | refine qsl ?_ | refine qsg ?_ | refine qsf ?_ | refine qsd ?_ | refine qsE ?_ | refine qsX ?_ | refine qse ?_ | refine qsx ?_ | refine qso ?_ | refine cg_cond_true rfl ?_ | refine cg_cond_false rfl ?_ | refine cg_skip ?_ | refine cg_block ?_ | refine eg_in_normal ?_ | refine cg_ret ?_ | refine eg_then_ret ?_ | refine eg_in_ret ?_ | refine cg_exit ?_ | refine eg_then_exit ?_ | refine eg_in_exit ?_ | refine eg_in_other rfl ?_)
    exact eg_returnC2 rfl rfl rfl rfl (cells_at (vs := noG.cs none 0) hk3 rfl) rfl ⟨none, 0, rfl, sl_nilM _⟩
  repeat (first | refine cg_seq ?_ | refine cg_region ?_ | refine rg_nil ?_ | refine eg_then ?_ | refine qsp ?_ | refine qsn ?_ | refine qsa ?_ | refine qss ?_ | refine qsi ?_ | refine qsz ?_ | refine qsl ?_ | refine qsg ?_ | refine qsf ?_ | refine qsd ?_ | refine qsE ?_ | refine qsX ?_ | refine qse ?_ | refine qsx ?_ | refine qso ?_ | refine cg_cond_true rfl ?_ | refine cg_cond_false rfl ?_ | refine cg_skip ?_ | refine cg_block ?_ | refine eg_in_normal ?_ | refine cg_ret ?_ | refine eg_then_ret ?_ | refine eg_in_ret ?_ | refine cg_exit ?_ | refine eg_then_exit ?_ | refine eg_in_exit ?_ | refine eg_in_other rfl ?_)
  refine rs rfl rfl (loc_det rfl (d_lit (cells := (⟨n, 0, 0, []⟩ : Group).cs none 0) rfl rfl rfl)) ?_
  refine rw1 (vs := (⟨n, 0, 0, []⟩ : Group).cs none 0) rfl rfl rfl rfl rfl rfl rfl hk2 rfl (.inl hN2) (by simp [Group.cs, Value.oneCell']) ?_
  intro k3 ht3 hk3
  repeat (first | refine cg_seq ?_ | refine cg_region ?_ | refine rg_nil ?_ | refine eg_then ?_ | refine qsp ?_ | refine qsn ?_ | refine qsa ?_ | refine qss ?_ | refine qsi ?_ | refine qsz ?_ | refine qsl ?_ | refine qsg ?_ | refine qsf ?_ | refine qsd ?_ | refine qsE ?_ | refine qsX ?_ | refine qse ?_ | refine qsx ?_ | refine qso ?_ | refine cg_cond_true rfl ?_ | refine cg_cond_false rfl ?_ | refine cg_skip ?_ | refine cg_block ?_ | refine eg_in_normal ?_ | refine cg_ret ?_ | refine eg_then_ret ?_ | refine eg_in_ret ?_ | refine cg_exit ?_ | refine eg_then_exit ?_ | refine eg_in_exit ?_ | refine eg_in_other rfl ?_)
  exact eg_returnC2 rfl rfl rfl rfl (cells_at (vs := (⟨n, 0, 0, []⟩ : Group).cs none 0) hk3 rfl) rfl ⟨none, 0, rfl, sl_nilM _⟩
set_option maxHeartbeats 1000000 in
theorem fence_ct {k : PH} {g : Group} {a : Option Addr} {c : Nat} (hl : Sl tMember k a c g.l) (hok : g.ok) (hsm : SmallG g) (id : ByteArray) (gen : Int) : CT Try.prog 19 #[.agg (g.cs a c).toArray, .string id, .int .i64 gen] k (fun _ v => v = .int .i64 (fenceG g id gen)) := by
  refine ct_of_body (l := [_, _, _]) Try.func19 rfl Try.ntmps19 (by simp) (fun _ _ _ _ h => h) fun F hF0 hFm => ?_
  have hb : g.l.length ≤ 1000000000000000 := by have := hsm.1; omega
  repeat (first | refine cg_seq ?_ | refine cg_region ?_ | refine rg_nil ?_ | refine eg_then ?_ | refine qsp ?_ | refine qsn ?_ | refine qsa ?_ | refine qss ?_ | refine qsi ?_ | refine qsz ?_ | refine qsl ?_ | refine qsg ?_ | refine qsf ?_ | refine qsd ?_ | refine qsE ?_ | refine qsX ?_ | refine qse ?_ | refine qsx ?_ | refine qso ?_ | refine cg_cond_true rfl ?_ | refine cg_cond_false rfl ?_ | refine cg_skip ?_ | refine cg_block ?_ | refine eg_in_normal ?_ | refine cg_ret ?_ | refine eg_then_ret ?_ | refine eg_in_ret ?_ | refine cg_exit ?_ | refine eg_then_exit ?_ | refine eg_in_exit ?_ | refine eg_in_other rfl ?_)
  refine rb rfl rfl rfl rfl (a_box rfl rfl) ?_; intro b1 k1 hb1 hN1 hle1 hk1
  have hl := hl.le hle1
  have cg1 := cells_at (vs := g.cs a c) hk1 rfl
  repeat (first | refine cg_seq ?_ | refine cg_region ?_ | refine rg_nil ?_ | refine eg_then ?_ | refine qsp ?_ | refine qsn ?_ | refine qsa ?_ | refine qss ?_ | refine qsi ?_ | refine qsz ?_ | refine qsl ?_ | refine qsg ?_ | refine qsf ?_ | refine qsd ?_ | refine qsE ?_ | refine qsX ?_ | refine qse ?_ | refine qsx ?_ | refine qso ?_ | refine cg_cond_true rfl ?_ | refine cg_cond_false rfl ?_ | refine cg_skip ?_ | refine cg_block ?_ | refine eg_in_normal ?_ | refine cg_ret ?_ | refine eg_then_ret ?_ | refine eg_in_ret ?_ | refine cg_exit ?_ | refine eg_then_exit ?_ | refine eg_in_exit ?_ | refine eg_in_other rfl ?_)
  refine rvn rfl rfl rfl rfl rfl rfl rfl (keep_ctn hl hok hsm) ?_
  rintro N k2 _ hN2 _ hle2 ⟨bk, KK, v, rfl, hk⟩
  have hbn : F.w0.heap.size ≤ bk := Nat.le_trans hN2 hk.nb
  repeat (first | refine cg_seq ?_ | refine cg_region ?_ | refine rg_nil ?_ | refine eg_then ?_ | refine qsp ?_ | refine qsn ?_ | refine qsa ?_ | refine qss ?_ | refine qsi ?_ | refine qsz ?_ | refine qsl ?_ | refine qsg ?_ | refine qsf ?_ | refine qsd ?_ | refine qsE ?_ | refine qsX ?_ | refine qse ?_ | refine qsx ?_ | refine qso ?_ | refine cg_cond_true rfl ?_ | refine cg_cond_false rfl ?_ | refine cg_skip ?_ | refine cg_block ?_ | refine eg_in_normal ?_ | refine cg_ret ?_ | refine eg_then_ret ?_ | refine eg_in_ret ?_ | refine cg_exit ?_ | refine eg_then_exit ?_ | refine eg_in_exit ?_ | refine eg_in_other rfl ?_)
  refine rcm rfl rfl rfl rfl rfl rfl rfl (find_ctm hk hb id true) (fun b hb => .inl (by rw [hb]; exact hbn)) ?_
  rintro _ k3 _ ⟨i, rfl, hfa, h3⟩
  have c1 := (cells_at (vs := kCells g v (wantE (chkG g) (metAt id g.l i || !true) 230)) h3.at' rfl).one (i := 1) rfl
  repeat (first | refine cg_seq ?_ | refine cg_region ?_ | refine rg_nil ?_ | refine eg_then ?_ | refine qsp ?_ | refine qsn ?_ | refine qsa ?_ | refine qss ?_ | refine qsi ?_ | refine qsz ?_ | refine qsl ?_ | refine qsg ?_ | refine qsf ?_ | refine qsd ?_ | refine qsE ?_ | refine qsX ?_ | refine qse ?_ | refine qsx ?_ | refine qso ?_ | refine cg_cond_true rfl ?_ | refine cg_cond_false rfl ?_ | refine cg_skip ?_ | refine cg_block ?_ | refine eg_in_normal ?_ | refine cg_ret ?_ | refine eg_then_ret ?_ | refine eg_in_ret ?_ | refine cg_exit ?_ | refine eg_then_exit ?_ | refine eg_in_exit ?_ | refine eg_in_other rfl ?_)
  refine rcm rfl rfl rfl rfl rfl rfl rfl (want_ctm h3 (decide (gen = g.gen)) 231) (fun b hb => .inl (by rw [hb]; exact hbn)) ?_
  rintro _ k4 _ ⟨rfl, h4⟩
  rw [fence_eq g id gen hfa] at h4
  have c4 := (cells_at (vs := kCells g v (fenceG g id gen)) h4.at' rfl).one (i := 4) rfl
  repeat (first | refine cg_seq ?_ | refine cg_region ?_ | refine rg_nil ?_ | refine eg_then ?_ | refine qsp ?_ | refine qsn ?_ | refine qsa ?_ | refine qss ?_ | refine qsi ?_ | refine qsz ?_ | refine qsl ?_ | refine qsg ?_ | refine qsf ?_ | refine qsd ?_ | refine qsE ?_ | refine qsX ?_ | refine qse ?_ | refine qsx ?_ | refine qso ?_ | refine cg_cond_true rfl ?_ | refine cg_cond_false rfl ?_ | refine cg_skip ?_ | refine cg_block ?_ | refine eg_in_normal ?_ | refine cg_ret ?_ | refine eg_then_ret ?_ | refine eg_in_ret ?_ | refine cg_exit ?_ | refine eg_then_exit ?_ | refine eg_in_exit ?_ | refine eg_in_other rfl ?_)
  exact eg_return rfl rfl rfl
end Go.Wm

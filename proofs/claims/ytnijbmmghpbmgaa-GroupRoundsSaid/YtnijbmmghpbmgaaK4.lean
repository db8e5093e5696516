/-
  What is done to a group leaves one that may be, in plain Lean. Conditions: none.
-/
import Derived.Test.YtnijbmmghpbmgaaN7
set_option linter.all false
namespace Go.Wm
open Go.RowKit Go.Proofs
structure LOk (l : List Member) : Prop where
  right : RightP ordId memOk l
  stat : (statics l).Nodup
  own : (owns l).Nodup
theorem right_all {l : List Member} : RightP ordId memOk l ↔ (∀ x ∈ l, memOk x = true) ∧ l.Pairwise fun a b => ordId a b < 0 := right_iff ordL_id
theorem statics_perm {l l' : List Member} (h : l.Perm l') : (statics l).Perm (statics l') := (h.map _).filter _
theorem owns_perm {l l' : List Member} (h : l.Perm l') : (owns l).Perm (owns l') := h.flatMap_right _
theorem statics_cons (x : Member) (l : List Member) : statics (x :: l) = (if x.static = ⟨#[]⟩ then [] else [x.static]) ++ statics l := by
  unfold statics
  rw [List.map_cons, List.filter_cons]
  by_cases h : x.static = ⟨#[]⟩ <;> simp [h]
theorem owns_cons (x : Member) (l : List Member) : owns (x :: l) = x.own ++ owns l := rfl
theorem ownsSub {l l' : List Member} (h : l'.Sublist l) : (owns l').Sublist (owns l) := by
  induction h with
  | slnil => exact List.Sublist.refl _
  | cons a h ih => rw [owns_cons]; exact ih.trans (List.sublist_append_right _ _)
  | cons_cons a h ih => rw [owns_cons, owns_cons]; exact (List.Sublist.refl _).append ih
theorem LOk.sub {l l' : List Member} (h : LOk l) (hs : l'.Sublist l) : LOk l' := by
  obtain ⟨h1, h2⟩ := right_all.1 h.right
  refine ⟨right_all.2 ⟨fun x hx => h1 x (hs.subset hx), h2.sublist hs⟩, h.stat.sublist ((hs.map _).filter _), h.own.sublist (ownsSub hs)⟩
theorem memOk_unjoin (m : Member) : memOk (unjoin m) = memOk m := rfl
theorem statics_unjoin (l : List Member) : statics (l.map unjoin) = statics l := by
  unfold statics; rw [List.map_map]; rfl
theorem owns_unjoin (l : List Member) : owns (l.map unjoin) = owns l := by
  unfold owns; rw [List.flatMap_map]; rfl
theorem LOk.unjoin {l : List Member} (h : LOk l) : LOk (l.map unjoin) := by
  obtain ⟨h1, h2⟩ := right_all.1 h.right
  refine ⟨right_all.2 ⟨fun x hx => ?_, ?_⟩, by rw [statics_unjoin]; exact h.stat, by rw [owns_unjoin]; exact h.own⟩
  · obtain ⟨y, hy, rfl⟩ := List.mem_map.1 hx
    rw [memOk_unjoin]; exact h1 y hy
  · exact List.pairwise_map.2 h2
theorem hasId_unjoin (id : ByteArray) (l : List Member) : hasId id (l.map unjoin) = hasId id l := by
  unfold hasId; rw [List.any_map]; rfl
theorem hasId_false {id : ByteArray} {l : List Member} : hasId id l = false ↔ ∀ m ∈ l, m.id ≠ id := by
  unfold hasId; simp
theorem hasId_true {id : ByteArray} {l : List Member} : hasId id l = true ↔ ∃ m ∈ l, m.id = id := by
  unfold hasId; simp
theorem ins_perm (x : Member) (l : List Member) : (insM x l).Perm (x :: l) := by
  unfold insM
  refine List.perm_middle.trans ?_
  rw [List.take_append_drop]
theorem mem_ins {x y : Member} {l : List Member} : y ∈ insM x l ↔ y = x ∨ y ∈ l := by
  rw [(ins_perm x l).mem_iff]; simp
theorem ins_len (x : Member) (l : List Member) : (insM x l).length = l.length + 1 := (ins_perm x l).length_eq
theorem not_met {id : ByteArray} {l : List Member} (h : RightP ordId memOk l) (hn : hasId id l = false) (x : Member) (hx : x.id = id) : ¬ metF (fun y => ordId y x) l = true := by
  rw [right_met ordL_id h x]
  intro ha
  obtain ⟨y, hy, hz⟩ := List.any_eq_true.1 ha
  have hz : cmpStr y.id x.id = 0 := of_decide_eq_true hz
  exact hasId_false.1 hn y hy (by rw [cmpStr_eq.1 hz, hx])
theorem LOk.ins {l : List Member} {x : Member} (h : LOk l) (hx : memOk x = true) (hid : hasId x.id l = false) (hst : x.static = ⟨#[]⟩ ∨ ∀ m ∈ l, m.static ≠ x.static) (how : ∀ t ∈ x.own, t ∉ owns l) : LOk (insM x l) := by
  obtain ⟨h1, h2⟩ := right_all.1 h.right
  have hn := not_met h.right hid x rfl
  refine ⟨right_all.2 ⟨fun y hy => ?_, ?_⟩, ?_, ?_⟩
  · rcases mem_ins.1 hy with rfl | hy
    · exact hx
    · exact h1 y hy
  · have hb : ∀ y ∈ l.take (posF (byId x.id) l), ordId y x < 0 := fun y hy => take_below (f := byId x.id) y hy
    have ha : ∀ y ∈ l.drop (posF (byId x.id) l), ordId x y < 0 := drop_above ordL_id h2 hn
    unfold insM
    rw [List.pairwise_append]
    refine ⟨h2.sublist (List.take_sublist _ _), List.pairwise_cons.2 ⟨ha, h2.sublist (List.drop_sublist _ _)⟩, fun a ha' b hb' => ?_⟩
    rcases List.mem_cons.1 hb' with rfl | hb'
    · exact hb a ha'
    · exact ordL_id.tr _ _ _ (hb a ha') (ha b hb')
  · rw [(statics_perm (ins_perm x l)).nodup_iff, statics_cons]
    by_cases he : x.static = ⟨#[]⟩
    · rw [if_pos he]; exact h.stat
    · rw [if_neg he]
      refine List.nodup_cons.2 ⟨fun hm => ?_, h.stat⟩
      unfold statics at hm
      obtain ⟨hm, _⟩ := List.mem_filter.1 hm
      obtain ⟨y, hy, hye⟩ := List.mem_map.1 hm
      rcases hst with hst | hst
      · exact he hst
      · exact hst y hy hye
  · rw [(owns_perm (ins_perm x l)).nodup_iff, owns_cons]
    refine List.nodup_append.2 ⟨?_, h.own, fun a ha b hb e => how a ha (e ▸ hb)⟩
    have hr : RightP ordTp tpOk x.own := by
      unfold memOk at hx
      simp only [Bool.and_eq_true, decide_eq_true_eq] at hx
      exact hx.2.2.2.2.2
    exact ((right_iff ordL_tp).1 hr).2.imp fun {a b} hlt he => by rw [he, ordTp_eq.2 rfl] at hlt; omega
theorem del_sub (i : Nat) (l : List Member) : (delM i l).Sublist l := by
  unfold delM
  rw [← List.eraseIdx_eq_take_drop_succ]
  exact List.eraseIdx_sublist _ _
theorem del_perm {i : Nat} {l : List Member} {was : Member} (h : l[i]? = some was) : l.Perm (was :: delM i l) := by
  obtain ⟨hi, rfl⟩ := List.getElem?_eq_some_iff.1 h
  unfold delM
  have e : l.take i ++ l[i] :: l.drop (i + 1) = l := by rw [← List.drop_eq_getElem_cons hi, List.take_append_drop]
  exact (by rw [e] : l.Perm (l.take i ++ l[i] :: l.drop (i + 1))).trans List.perm_middle
theorem del_len {i : Nat} {l : List Member} {was : Member} (h : l[i]? = some was) : (delM i l).length + 1 = l.length := by
  have := (del_perm h).length_eq
  simpa using this.symm
theorem ids_inj {l : List Member} (h : RightP ordId memOk l) {i : Nat} {was : Member} (hi : l[i]? = some was) : hasId was.id (delM i l) = false := by
  obtain ⟨h1, h2⟩ := right_all.1 h
  have h3 : l.Pairwise fun a b => a.id ≠ b.id := h2.imp fun {a b} hlt he => by
    have : ordId a b = 0 := cmpStr_eq.2 he
    omega
  have h4 : (was :: delM i l).Pairwise fun a b => a.id ≠ b.id := (del_perm hi).pairwise h3 fun {a b} hab => Ne.symm hab
  exact hasId_false.2 fun m hm => Ne.symm ((List.pairwise_cons.1 h4).1 m hm)
/-- Who stands where it is looked for. -/
theorem has_at {id : ByteArray} {l : List Member} (h : RightP ordId memOk l) (hh : hasId id l = true) : ∃ was, l[posF (byId id) l]? = some was ∧ was.id = id := by
  rw [← met_has h] at hh
  unfold metAt at hh
  have hh := of_decide_eq_true hh
  cases e : l[posF (byId id) l]? with
  | none => rw [e] at hh; cases hh
  | some was =>
    rw [e] at hh
    refine ⟨was, rfl, cmpStr_eq.1 ?_⟩
    simpa [byId] using hh
theorem finJ_ok {g : Group} {l : List Member} {x : Member} {b : Bool} (hg : ChkG g) (hl : LOk l) (hx : memOk x = true) (hid : hasId x.id l = false) (hst : x.static = ⟨#[]⟩ ∨ ∀ m ∈ l, m.static ≠ x.static) (how : ∀ t ∈ x.own, t ∉ owns l) (hn : l.length < 64) (he : (finJ g l x b).2 = 0) : ChkG (finJ g l x b).1 := by
  unfold finJ at he ⊢
  split at he
  · rename_i hb
    rw [if_pos hb]
    split at he
    · rename_i hgen
      rw [if_pos hgen]
      have := hl.unjoin.ins hx (by rw [hasId_unjoin]; exact hid) (hst.imp id fun h m hm => by obtain ⟨y, hy, rfl⟩ := List.mem_map.1 hm; exact h y hy) (by rw [owns_unjoin]; exact how)
      have h0 := hg.gen0
      exact ⟨by show (insM x (l.map unjoin)).length ≤ 64; rw [ins_len, List.length_map]; omega, hg.name, by show 0 ≤ g.gen + 1; omega, by show g.gen + 1 ≤ 1048576; omega, rfl, this.right, this.stat, this.own⟩
    · cases he
  · rename_i hb
    rw [if_neg hb]
    have := hl.ins hx hid hst how
    exact ⟨by show (insM x l).length ≤ 64; rw [ins_len]; omega, hg.name, hg.gen0, hg.gen1, rfl, this.right, this.stat, this.own⟩
theorem chk_lok {g : Group} (h : ChkG g) : LOk g.l := ⟨h.right, h.stat, h.own⟩
theorem memOk_own {m : Member} {l : List Tp} (h : memOk m = true) (hl : RightP ordTp tpOk l) : memOk { m with own := l } = true := by
  unfold memOk at h ⊢
  simp only [Bool.and_eq_true, decide_eq_true_eq] at h ⊢
  exact ⟨h.1, h.2.1, h.2.2.1, h.2.2.2.1, h.2.2.2.2.1, hl⟩
theorem memOk_right {m : Member} (h : memOk m = true) : RightP ordTp tpOk m.own := by
  unfold memOk at h
  simp only [Bool.and_eq_true, decide_eq_true_eq] at h
  exact h.2.2.2.2.2
theorem rightTp_sub {l l' : List Tp} (h : RightP ordTp tpOk l) (hs : l'.Sublist l) : RightP ordTp tpOk l' := by
  obtain ⟨h1, h2⟩ := (right_iff ordL_tp).1 h
  exact (right_iff ordL_tp).2 ⟨fun x hx => h1 x (hs.subset hx), h2.sublist hs⟩
theorem own_del {l : List Member} {i : Nat} {was : Member} (h : LOk l) (hi : l[i]? = some was) : ∀ t ∈ was.own, t ∉ owns (delM i l) := by
  have := (owns_perm (del_perm hi)).nodup_iff.1 h.own
  rw [owns_cons] at this
  intro t ht hm
  exact (List.nodup_append.1 this).2.2 t ht t hm rfl
theorem stat_del {l : List Member} {i : Nat} {was : Member} (h : LOk l) (hi : l[i]? = some was) : was.static = ⟨#[]⟩ ∨ ∀ m ∈ delM i l, m.static ≠ was.static := by
  by_cases he : was.static = ⟨#[]⟩
  · exact .inl he
  refine .inr fun m hm hme => ?_
  have := (statics_perm (del_perm hi)).nodup_iff.1 h.stat
  rw [statics_cons, if_neg he] at this
  refine (List.nodup_cons.1 this).1 ?_
  unfold statics
  exact List.mem_filter.2 ⟨List.mem_map.2 ⟨m, hm, hme⟩, by simpa using he⟩
/-- The ways a member may join. -/
inductive JoinR (g : Group) (m : Member) (now : Int) : Group × Int → Prop
  | bad {e : Int} (h : chkG g ≠ 0) (he : e = chkG g) : JoinR g m now (noG, e)
  | arg (h : ChkG g) (h2 : memOk { m with beat := now, joined := true } = false ∨ ∃ was ∈ g.l, was.id = m.id ∧ was.static ≠ m.static) : JoinR g m now (noG, 1)
  | back {i : Nat} {was : Member} (h : ChkG g) (h2 : memOk { m with beat := now, joined := true } = true) (hi : g.l[i]? = some was) (hid : was.id = m.id) (hst : was.static = m.static) : JoinR g m now (finJ g (delM i g.l) { m with beat := now, joined := true, own := metOf was.own m.own } (decide (g.state = 2)))
  | stays {i : Nat} {was : Member} (h : ChkG g) (h2 : memOk { m with beat := now, joined := true } = true) (hno : hasId m.id g.l = false) (hi : g.l[i]? = some was) (hs : m.static ≠ ⟨#[]⟩) (hst : was.static = m.static) : JoinR g m now (finJ g (delM i g.l) { m with beat := now, joined := true, own := was.own } (decide (g.state = 2) && !decide (was.subs = m.subs)))
  | many (h : ChkG g) (hn : g.l.length = 64) : JoinR g m now (noG, 2)
  | new (h : ChkG g) (h2 : memOk { m with beat := now, joined := true } = true) (hno : hasId m.id g.l = false) (hs : m.static = ⟨#[]⟩ ∨ ∀ x ∈ g.l, x.static ≠ m.static) (hn : g.l.length < 64) : JoinR g m now (finJ g g.l { m with beat := now, joined := true, own := [] } (decide (g.state ≠ 1)))
theorem join_ways (g : Group) (m : Member) (now : Int) : JoinR g m now (joinG g m now) := by
  unfold joinG
  split
  · rename_i h; exact .bad h rfl
  rename_i h
  have hc := chk_all (Decidable.not_not.1 h)
  split
  · rename_i h2; exact .arg hc (.inl h2)
  rename_i h2
  have h2 : memOk { m with beat := now, joined := true } = true := by simpa using h2
  split
  · rename_i h3
    obtain ⟨was, hw, hid⟩ := has_at hc.right h3
    rw [hw]
    dsimp only
    split
    · rename_i h4; exact .arg hc (.inr ⟨was, List.mem_of_getElem? hw, hid, h4⟩)
    · rename_i h4; exact .back hc h2 hw hid (Decidable.not_not.1 h4)
  rename_i h3
  have h3 : hasId m.id g.l = false := by simpa using h3
  cases hs : g.l.findIdx? (sameStat m.static) with
  | some s =>
    obtain ⟨hlt, hss, _⟩ := List.findIdx?_eq_some_iff_getElem.1 hs
    dsimp only
    rw [List.getElem?_eq_getElem hlt]
    dsimp only
    unfold sameStat at hss
    simp only [Bool.and_eq_true, Bool.not_eq_true', decide_eq_false_iff_not, decide_eq_true_eq] at hss
    exact .stays hc h2 h3 (List.getElem?_eq_getElem hlt) hss.1 hss.2
  | none =>
    dsimp only
    have hno := List.findIdx?_eq_none_iff.1 hs
    have hno : m.static = ⟨#[]⟩ ∨ ∀ x ∈ g.l, x.static ≠ m.static := by
      by_cases he : m.static = ⟨#[]⟩
      · exact .inl he
      · refine .inr fun x hx hxe => ?_
        have := hno x hx
        unfold sameStat at this
        simp [he, hxe] at this
    split
    · rename_i h4; exact .many hc (by have := hc.few; omega)
    · rename_i h4; exact .new hc h2 h3 hno (by omega)
theorem join_ok {g : Group} {m : Member} {now : Int} (he : (joinG g m now).2 = 0) : ChkG (joinG g m now).1 := by
  have hj := join_ways g m now
  generalize joinG g m now = r at hj he ⊢
  cases hj with
  | bad h h1 => rw [h1] at he; exact absurd he h
  | arg h h2 => cases he
  | back h h2 hi hid hst =>
    refine finJ_ok h ((chk_lok h).sub (del_sub _ _)) (memOk_own h2 (rightTp_sub (memOk_right ((right_all.1 h.right).1 _ (List.mem_of_getElem? hi))) List.filter_sublist)) ?_ ?_ ?_ ?_ he
    · rw [← hid]; exact ids_inj h.right hi
    · rw [← hst]; exact stat_del (chk_lok h) hi
    · intro t ht
      exact own_del (chk_lok h) hi t (List.mem_filter.1 ht).1
    · have := del_len hi; have := h.few; omega
  | stays h h2 hno hi hs hst =>
    refine finJ_ok h ((chk_lok h).sub (del_sub _ _)) (memOk_own h2 (memOk_right ((right_all.1 h.right).1 _ (List.mem_of_getElem? hi)))) ?_ ?_ ?_ ?_ he
    · exact hasId_false.2 fun y hy => hasId_false.1 hno y ((del_sub _ _).subset hy)
    · rw [← hst]; exact stat_del (chk_lok h) hi
    · intro t ht; exact own_del (chk_lok h) hi t ht
    · have := del_len hi; have := h.few; omega
  | many h hn => cases he
  | new h h2 hno hs hn =>
    exact finJ_ok h (chk_lok h) (memOk_own h2 (fun i hi => by simp at hi)) hno hs (fun t ht => by cases ht) hn he
end Go.Wm

/-
  What is done to a group leaves it small, in plain Lean. Conditions: none.
-/
import Derived.Test.YtnijbmmghpbmgaaK7
set_option linter.all false
namespace Go.Wm
open Go.RowKit Go.Proofs
theorem stat_uniq {l : List Member} (h : (statics l).Nodup) {i j : Nat} {a b : Member} (ha : l[i]? = some a) (hb : l[j]? = some b) (he : a.static = b.static) (hn : a.static ≠ ⟨#[]⟩) : i = j := by
  apply Classical.byContradiction
  intro hij
  obtain ⟨hi, rfl⟩ := List.getElem?_eq_some_iff.1 ha
  obtain ⟨hj, rfl⟩ := List.getElem?_eq_some_iff.1 hb
  have key : ∀ i j, (hi : i < l.length) → (hj : j < l.length) → i < j → l[i].static = l[j].static → l[i].static ≠ ⟨#[]⟩ → False := fun i j hi hj hij he hn => by
    have h1 := (statics_perm (del_perm (List.getElem?_eq_getElem hi))).nodup_iff.1 h
    rw [statics_cons, if_neg hn] at h1
    refine (List.nodup_cons.1 h1).1 ?_
    unfold statics
    refine List.mem_filter.2 ⟨List.mem_map.2 ⟨l[j], ?_, he.symm⟩, by simpa using hn⟩
    unfold delM
    refine List.mem_append_right _ (List.mem_drop_iff_getElem.2 ⟨j - (i + 1), by omega, ?_⟩)
    congr 1
    omega
  rcases Nat.lt_or_gt_of_ne hij with h3 | h3
  · exact key i j hi hj h3 he hn
  · exact key j i hj hi h3 he.symm (by rw [← he]; exact hn)
theorem stateG_two {l : List Member} : stateG l = 2 ↔ 0 < l.length ∧ ∀ m ∈ l, m.joined = true := by
  unfold stateG
  by_cases h0 : l.length = 0
  · simp [h0]
  · rw [if_neg h0]
    by_cases h1 : l.any (fun m => !m.joined) = true
    · rw [if_pos h1]
      refine ⟨fun h => by omega, fun h => ?_⟩
      obtain ⟨m, hm, hj⟩ := List.any_eq_true.1 h1
      rw [h.2 m hm] at hj; cases hj
    · rw [if_neg h1]
      refine ⟨fun _ => ⟨by omega, fun m hm => ?_⟩, fun _ => rfl⟩
      cases hj : m.joined
      · exact absurd (List.any_eq_true.2 ⟨m, hm, by rw [hj]; rfl⟩) h1
      · rfl
theorem hasId_idx {id : ByteArray} {l : List Member} (h : hasId id l = true) : ∃ s : Nat, idxF l (fun m => decide (m.id = id)) = (s : Int) ∧ ∃ hs : s < l.length, l[s].id = id := by
  rcases idxF_cases l (fun m => decide (m.id = id)) with ⟨_, hno⟩ | ⟨s, hs, hx, hy, _⟩
  · obtain ⟨m, hm, he⟩ := hasId_true.1 h
    have := hno m hm
    rw [he] at this
    simp at this
  · exact ⟨s, hx, hs, of_decide_eq_true hy⟩
theorem hasId_no {id : ByteArray} {l : List Member} (h : hasId id l = false) : idxF l (fun m => decide (m.id = id)) = -1 := idxF_no fun x hx => by
  have := hasId_false.1 h x hx
  simpa using this
theorem idx_has {id : ByteArray} {l : List Member} : decide (0 ≤ idxF l (fun m => decide (m.id = id))) = hasId id l := by
  cases h : hasId id l
  · rw [hasId_no h]; rfl
  · obtain ⟨s, hs, _⟩ := hasId_idx h
    rw [hs]; simp
theorem hasId_ins {id : ByteArray} {x : Member} {l : List Member} : hasId id (insM x l) = (decide (x.id = id) || hasId id l) := by
  rw [Bool.eq_iff_iff, hasId_true, Bool.or_eq_true, hasId_true]
  constructor
  · rintro ⟨y, hy, he⟩
    rcases mem_ins.1 hy with rfl | hy
    · exact .inl (by simpa using he)
    · exact .inr ⟨y, hy, he⟩
  · rintro (h | ⟨y, hy, he⟩)
    · exact ⟨x, mem_ins.2 (.inl rfl), by simpa using h⟩
    · exact ⟨y, mem_ins.2 (.inr hy), he⟩
theorem joinE_cases (g : Group) (m : Member) (now : Int) : (joinG g m now).2 = 0 ∨ (joinG g m now = (noG, 1)) ∨ (joinG g m now = (noG, 2)) := by
  have fin : ∀ l x b, (finJ g l x b).2 = 0 ∨ finJ g l x b = (noG, 1) ∨ finJ g l x b = (noG, 2) := fun l x b => by
    unfold finJ
    split
    · split
      · exact .inl rfl
      · exact .inr (.inr rfl)
    · exact .inl rfl
  have hj := join_ways g m now
  generalize joinG g m now = r at hj ⊢
  cases hj with
  | bad h he =>
    rw [he]
    rcases chk_cases g with h1 | h1 | h1
    · exact absurd h1 h
    · rw [h1]; exact .inr (.inl rfl)
    · rw [h1]; exact .inr (.inr rfl)
  | arg h h2 => exact .inr (.inl rfl)
  | back h h2 hi hid hst => exact fin _ _ _
  | stays h h2 hno hi hs hst => exact fin _ _ _
  | many h hn => exact .inr (.inr rfl)
  | new h h2 hno hs hn => exact fin _ _ _
theorem fence_no {x : Group} (h : ChkG x) {id : ByteArray} (gen : Int) (hn : hasId id x.l = false) : fenceG x id gen = 230 := by
  unfold fenceG
  rw [if_neg (by rw [chk_of h]; simp), if_pos hn]
theorem fence_yes {x : Group} (h : ChkG x) {id : ByteArray} {gen : Int} (hn : hasId id x.l = true) (hg : gen = x.gen) : fenceG x id gen = 0 := by
  unfold fenceG
  rw [if_neg (by rw [chk_of h]; simp), if_neg (by rw [hn]; simp), if_neg (by simp [hg])]
theorem beat_no {x : Group} (h : ChkG x) {id : ByteArray} (gen : Int) {now : Int} (ht : timeOk now = true) (hn : hasId id x.l = false) : (beatG x id gen now).2 = 230 := by
  unfold beatG
  rw [if_neg (by rw [chk_of h]; simp), if_neg (by rw [ht]; simp), if_pos hn]
theorem memOk_time {m : Member} (h : memOk m = true) : timeOk m.beat = true := by
  unfold memOk at h
  simp only [Bool.and_eq_true] at h
  exact h.2.2.1
/-- Who comes back by its Static. -/
theorem stays_law {g : Group} {n : Nat} {was : Member} {id : ByteArray} {now : Int} (hst : g.state = 2) (hw : g.l[n]? = some was) (hs : was.static ≠ ⟨#[]⟩) (hno : hasId id g.l = false) (he : (joinG g ⟨id, was.static, was.subs, [], false, 0⟩ now).2 = 0) :
    ∃ x, joinG g ⟨id, was.static, was.subs, [], false, 0⟩ now = (x, 0) ∧ ChkG x ∧ x.gen = g.gen ∧ x.state = 2 ∧ x.l.length = g.l.length ∧ hasId id x.l = true ∧ (∀ y ∈ x.l, y.id = id → y.own = was.own) ∧ hasId was.id x.l = false ∧ timeOk now = true := by
  have hok := join_ok he
  have hj := join_ways g ⟨id, was.static, was.subs, [], false, 0⟩ now
  generalize joinG g ⟨id, was.static, was.subs, [], false, 0⟩ now = r at hj he hok ⊢
  cases hj with
  | bad h h1 => rw [h1] at he; exact absurd he h
  | arg h h2 => cases he
  | back h h2 hi hid hst2 => exact absurd hid (hasId_false.1 hno _ (List.mem_of_getElem? hi))
  | many h hn => cases he
  | new h h2 hno2 hs2 hn =>
    rcases hs2 with hs2 | hs2
    · exact absurd hs2 hs
    · exact absurd rfl (hs2 was (List.mem_of_getElem? hw))
  | @stays i was' h h2 hno2 hi hs2 hst2 =>
    have hin : i = n := stat_uniq h.stat hi hw hst2 (by rw [hst2]; exact hs2)
    subst hin
    rw [hw] at hi
    cases hi
    have hb : (decide (g.state = 2) && !decide (was.subs = was.subs)) = false := by simp
    dsimp only at hok ⊢
    rw [hb] at hok ⊢
    have hjall := (stateG_two.1 (h.state ▸ hst)).2
    refine ⟨_, rfl, hok, rfl, ?_, ?_, ?_, ?_, ?_, ?_⟩
    · show stateG (insM _ (delM i g.l)) = 2
      refine stateG_two.2 ⟨by rw [ins_len]; omega, fun y hy => ?_⟩
      rcases mem_ins.1 hy with rfl | hy
      · rfl
      · exact hjall y ((del_sub _ _).subset hy)
    · show (insM _ (delM i g.l)).length = _
      rw [ins_len]; exact del_len hw
    · show hasId id (insM _ (delM i g.l)) = true
      rw [hasId_ins]; simp
    · intro y hy hyid
      rcases mem_ins.1 hy with rfl | hy
      · rfl
      · exact absurd hyid (hasId_false.1 hno y ((del_sub _ _).subset hy))
    · show hasId was.id (insM _ (delM i g.l)) = false
      rw [hasId_ins, ids_inj h.right hw]
      have : id ≠ was.id := fun e => hasId_false.1 hno was (List.mem_of_getElem? hw) e.symm
      simp [this]
    · exact memOk_time h2
end Go.Wm
namespace Go.Wm
open Go.RowKit Go.Proofs
def OwnB (B : Nat) (l : List Member) : Prop := ∀ y ∈ l, y.own.length ≤ B
theorem OwnB.sub {B : Nat} {l l' : List Member} (h : OwnB B l) (hs : l'.Sublist l) : OwnB B l' := fun y hy => h y (hs.subset hy)
theorem OwnB.unjoin {B : Nat} {l : List Member} (h : OwnB B l) : OwnB B (l.map unjoin) := fun y hy => by
  obtain ⟨x, hx, rfl⟩ := List.mem_map.1 hy
  exact h x hx
theorem OwnB.ins {B : Nat} {l : List Member} {x : Member} (h : OwnB B l) (hx : x.own.length ≤ B) : OwnB B (insM x l) := fun y hy => by
  rcases mem_ins.1 hy with rfl | hy
  · exact hx
  · exact h y hy
theorem finJ_own {B : Nat} {g : Group} {l : List Member} {x : Member} {b : Bool} (h : OwnB B l) (hx : x.own.length ≤ B) : OwnB B (finJ g l x b).1.l := by
  unfold finJ
  split
  · split
    · exact h.unjoin.ins hx
    · intro y hy; cases hy
  · exact h.ins hx
theorem join_own {B : Nat} {g : Group} {m : Member} {now : Int} (h : OwnB B g.l) : OwnB B (joinG g m now).1.l := by
  have hj := join_ways g m now
  generalize joinG g m now = r at hj ⊢
  cases hj with
  | bad h1 h2 => intro y hy; cases hy
  | arg h1 h2 => intro y hy; cases hy
  | @back i was h1 h2 hi hid hst => exact finJ_own (h.sub (del_sub _ _)) (Nat.le_trans List.filter_sublist.length_le (h was (List.mem_of_getElem? hi)))
  | @stays i was h1 h2 hno hi hs hst => exact finJ_own (h.sub (del_sub _ _)) (h was (List.mem_of_getElem? hi))
  | many h1 hn => intro y hy; cases hy
  | new h1 h2 hno hs hn => exact finJ_own h (Nat.zero_le _)
theorem OwnB.setAt {B : Nat} {l : List Member} (h : OwnB B l) (p : Nat) {f : Member → Member} (hf : ∀ y ∈ l, (f y).own.length ≤ B) : OwnB B (setAt p f l) := by
  unfold Wm.setAt
  split
  · rename_i m hm
    intro y hy
    rcases List.mem_or_eq_of_mem_set hy with hy | rfl
    · exact h y hy
    · exact hf m (List.mem_of_getElem? hm)
  · exact h
theorem isName_le {s : ByteArray} (h : isName s = true) : s.size ≤ 64 := by
  unfold isName at h
  simp only [Bool.and_eq_true, decide_eq_true_eq] at h
  exact h.2.2
theorem ChkG.ok {x : Group} (h : ChkG x) : x.ok := by
  refine ⟨Nat.le_trans (isName_le h.name) (by decide), ?_, ?_, trivial⟩
  · unfold I64; have h1 := h.gen0; have h2 := h.gen1; omega
  · unfold I64; rw [h.state]
    unfold stateG
    repeat' split
    all_goals omega
end Go.Wm

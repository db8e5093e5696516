/-
  A round, in plain Lean. Conditions: none.
-/
import Derived.Test.YtbhgbfhgdccghaaGreatK7
set_option linter.all false
namespace Go.Wm
open Go.RowKit Go.Proofs
theorem id_uniq {l : List Member} (h : RightP ordId memOk l) {a b : Member} (ha : a ∈ l) (hb : b ∈ l) (he : a.id = b.id) : a = b := by
  obtain ⟨h1, h2⟩ := right_all.1 h
  obtain ⟨i, hi, rfl⟩ := List.getElem_of_mem ha
  obtain ⟨j, hj, rfl⟩ := List.getElem_of_mem hb
  have hp := List.pairwise_iff_getElem.1 h2
  rcases Nat.lt_trichotomy i j with h3 | h3 | h3
  · have := hp i j hi hj h3
    have e : ordId l[i] l[j] = 0 := cmpStr_eq.2 he
    omega
  · subst h3; rfl
  · have := hp j i hj hi h3
    have e : ordId l[j] l[i] = 0 := cmpStr_eq.2 he.symm
    omega
theorem hasId_idx {id : ByteArray} {l : List Member} (h : hasId id l = true) : ∃ s : Nat, idxF l (fun m => decide (m.id = id)) = (s : Int) ∧ ∃ hs : s < l.length, l[s].id = id := by
  rcases idxF_cases l (fun m => decide (m.id = id)) with ⟨_, hno⟩ | ⟨s, hs, hx, hy, _⟩
  · obtain ⟨m, hm, he⟩ := hasId_true.1 h
    have := hno m hm
    rw [he] at this
    simp at this
  · exact ⟨s, hx, hs, of_decide_eq_true hy⟩
theorem hasId_no {id : ByteArray} {l : List Member} (h : hasId id l = false) : idxF l (fun m => decide (m.id = id)) = -1 := idxF_no fun x hx => by
  have := hasId_false.1 h x hx
  simpa using this
theorem idx_has {id : ByteArray} {l : List Member} : decide (0 ≤ idxF l (fun m => decide (m.id = id))) = hasId id l := by
  cases h : hasId id l
  · rw [hasId_no h]; rfl
  · obtain ⟨s, hs, _⟩ := hasId_idx h
    rw [hs]; simp
theorem memOk_time {m : Member} (h : memOk m = true) : timeOk m.beat = true := by
  unfold memOk at h
  simp only [Bool.and_eq_true] at h
  exact h.2.2.1
end Go.Wm
namespace Go.Wm
open Go.RowKit Go.Proofs
def OwnB (B : Nat) (l : List Member) : Prop := ∀ y ∈ l, y.own.length ≤ B
theorem OwnB.sub {B : Nat} {l l' : List Member} (h : OwnB B l) (hs : l'.Sublist l) : OwnB B l' := fun y hy => h y (hs.subset hy)
theorem OwnB.unjoin {B : Nat} {l : List Member} (h : OwnB B l) : OwnB B (l.map unjoin) := fun y hy => by
  obtain ⟨x, hx, rfl⟩ := List.mem_map.1 hy
  exact h x hx
theorem OwnB.ins {B : Nat} {l : List Member} {x : Member} (h : OwnB B l) (hx : x.own.length ≤ B) : OwnB B (insM x l) := fun y hy => by
  rcases mem_ins.1 hy with rfl | hy
  · exact hx
  · exact h y hy
theorem OwnB.setAt {B : Nat} {l : List Member} (h : OwnB B l) (p : Nat) {f : Member → Member} (hf : ∀ y ∈ l, (f y).own.length ≤ B) : OwnB B (setAt p f l) := by
  unfold Wm.setAt
  split
  · rename_i m hm
    intro y hy
    rcases List.mem_or_eq_of_mem_set hy with hy | rfl
    · exact h y hy
    · exact hf m (List.mem_of_getElem? hm)
  · exact h
theorem isName_le {s : ByteArray} (h : isName s = true) : s.size ≤ 64 := by
  unfold isName at h
  simp only [Bool.and_eq_true, decide_eq_true_eq] at h
  exact h.2.2
theorem ChkG.ok {x : Group} (h : ChkG x) : x.ok := by
  refine ⟨Nat.le_trans (isName_le h.name) (by decide), ?_, ?_, trivial⟩
  · unfold I64; have h1 := h.gen0; have h2 := h.gen1; omega
  · unfold I64; rw [h.state]
    unfold stateG
    repeat' split
    all_goals omega
end Go.Wm
namespace Go.Wm
open Go.RowKit Go.Proofs
theorem lessG_all {x : Group} (h : ChkG x) : lessG x x.l = (x, 0) := by
  unfold lessG
  rw [if_neg (by omega), ← h.state]
end Go.Wm
namespace Go.Wm
open Go.RowKit Go.Proofs
/-- What is so behind anything that is done. -/
structure DoneOk (B : Nat) (g : Group) (q : Group × Int) : Prop where
  no : q.2 ≠ 0 → q.1 = noG
  chk : q.2 = 0 → ChkG q.1
  lo : q.2 = 0 → g.gen ≤ q.1.gen
  hi : q.2 = 0 → q.1.gen ≤ g.gen + 1
  stay : q.2 = 0 → q.1.gen = g.gen → g.state = 2 → q.1.state ≠ 2 → q.1.l.length = 0
  own : OwnB B q.1.l
theorem DoneOk.bad {B : Nat} {g : Group} {e : Int} (h : e ≠ 0) : DoneOk B g (noG, e) := ⟨fun _ => rfl, fun h0 => absurd h0 h, fun h0 => absurd h0 h, fun h0 => absurd h0 h, fun h0 => absurd h0 h, fun y hy => by cases hy⟩
end Go.Wm
namespace Go.Wm
open Go.RowKit Go.Proofs
def rejoin (now : Int) (m : Member) : Member := { m with beat := now, joined := true }
/-- The members behind i of them have joined again. -/
structure RInv (g : Group) (mx : Member) (now : Int) (i : Nat) (x : Group) : Prop where
  chk : ChkG x
  gen : x.gen = g.gen + 1
  mem : ∀ y, y ∈ x.l ↔ y = mx ∨ ∃ j, ∃ hj : j < g.l.length, y = if j < i then rejoin now g.l[j] else unjoin g.l[j]
  st : x.state = 2 ↔ i = g.l.length
theorem RInv.at {g : Group} {mx : Member} {now : Int} {i : Nat} {x : Group} (h : RInv g mx now i x) {j : Nat} (hj : j < g.l.length) : hasId g.l[j].id x.l = true ∧ ∀ y ∈ x.l, y.id = g.l[j].id → y = if j < i then rejoin now g.l[j] else unjoin g.l[j] := by
  have hm : (if j < i then rejoin now g.l[j] else unjoin g.l[j]) ∈ x.l := (h.mem _).2 (.inr ⟨j, hj, rfl⟩)
  have hid : (if j < i then rejoin now g.l[j] else unjoin g.l[j]).id = g.l[j].id := by split <;> rfl
  exact ⟨hasId_true.2 ⟨_, hm, hid⟩, fun y hy he => id_uniq h.chk.right hy hm (he.trans hid.symm)⟩
end Go.Wm

/-
  The walk of the law on who stays by its Static. Conditions: that what is handed in reads as data.
-/
import Derived.Test.YtnijbmmghpbmgaaK7
import Derived.Test.YtnijbmmghpbmgaaL1
import Derived.Test.YtnijbmmghpbmgaaR1
set_option linter.all false
namespace Go.Wm
open Go.RowKit Go.Proofs
theorem stateG_two {l : List Member} : stateG l = 2 ↔ 0 < l.length ∧ ∀ m ∈ l, m.joined = true := by
  unfold stateG
  by_cases h0 : l.length = 0
  · simp [h0]
  · rw [if_neg h0]
    by_cases h1 : l.any (fun m => !m.joined) = true
    · rw [if_pos h1]
      refine ⟨fun h => by omega, fun h => ?_⟩
      obtain ⟨m, hm, hj⟩ := List.any_eq_true.1 h1
      rw [h.2 m hm] at hj; cases hj
    · rw [if_neg h1]
      refine ⟨fun _ => ⟨by omega, fun m hm => ?_⟩, fun _ => rfl⟩
      cases hj : m.joined
      · exact absurd (List.any_eq_true.2 ⟨m, hm, by rw [hj]; rfl⟩) h1
      · rfl
theorem memOk_time {m : Member} (h : memOk m = true) : timeOk m.beat = true := by
  unfold memOk at h
  simp only [Bool.and_eq_true] at h
  exact h.2.2.1
end Go.Wm
namespace Go.Wm
open Go.RowKit Go.Proofs
def OwnB (B : Nat) (l : List Member) : Prop := ∀ y ∈ l, y.own.length ≤ B
theorem OwnB.sub {B : Nat} {l l' : List Member} (h : OwnB B l) (hs : l'.Sublist l) : OwnB B l' := fun y hy => h y (hs.subset hy)
theorem OwnB.unjoin {B : Nat} {l : List Member} (h : OwnB B l) : OwnB B (l.map unjoin) := fun y hy => by
  obtain ⟨x, hx, rfl⟩ := List.mem_map.1 hy
  exact h x hx
theorem OwnB.ins {B : Nat} {l : List Member} {x : Member} (h : OwnB B l) (hx : x.own.length ≤ B) : OwnB B (insM x l) := fun y hy => by
  rcases mem_ins.1 hy with rfl | hy
  · exact hx
  · exact h y hy
theorem finJ_own {B : Nat} {g : Group} {l : List Member} {x : Member} {b : Bool} (h : OwnB B l) (hx : x.own.length ≤ B) : OwnB B (finJ g l x b).1.l := by
  unfold finJ
  split
  · split
    · exact h.unjoin.ins hx
    · intro y hy; cases hy
  · exact h.ins hx
theorem join_own {B : Nat} {g : Group} {m : Member} {now : Int} (h : OwnB B g.l) : OwnB B (joinG g m now).1.l := by
  have hj := join_ways g m now
  generalize joinG g m now = r at hj ⊢
  cases hj with
  | bad h1 h2 => intro y hy; cases hy
  | arg h1 h2 => intro y hy; cases hy
  | @back i was h1 h2 hi hid hst => exact finJ_own (h.sub (del_sub _ _)) (Nat.le_trans List.filter_sublist.length_le (h was (List.mem_of_getElem? hi)))
  | @stays i was h1 h2 hno hi hs hst => exact finJ_own (h.sub (del_sub _ _)) (h was (List.mem_of_getElem? hi))
  | many h1 hn => intro y hy; cases hy
  | new h1 h2 hno hs hn => exact finJ_own h (Nat.zero_le _)
theorem less_own {B : Nat} {g : Group} {l : List Member} (h : OwnB B l) : OwnB B (lessG g l).1.l := by
  unfold lessG
  split
  · split
    · exact h.unjoin
    · intro y hy; cases hy
  · exact h
theorem OwnB.setAt {B : Nat} {l : List Member} (h : OwnB B l) (p : Nat) {f : Member → Member} (hf : ∀ y ∈ l, (f y).own.length ≤ B) : OwnB B (setAt p f l) := by
  unfold Wm.setAt
  split
  · rename_i m hm
    intro y hy
    rcases List.mem_or_eq_of_mem_set hy with hy | rfl
    · exact h y hy
    · exact hf m (List.mem_of_getElem? hm)
  · exact h
theorem beat_own {B : Nat} {g : Group} {id : ByteArray} {gen now : Int} (h : OwnB B g.l) : OwnB B (beatG g id gen now).1.l := by
  unfold beatG
  repeat' split
  all_goals first | (intro y hy; cases hy; done) | exact h.setAt _ fun y hy => h y hy
theorem sync_own {B : Nat} {g x : Group} {id : ByteArray} {gen now : Int} {tps own : List Tp} {e : Int} (hs : SyncR g id gen now tps x own e) (h : OwnB B g.l) (ht : tps.length ≤ B) : OwnB B x.l := by
  by_cases hz : syncE g id gen now tps = 0
  · obtain ⟨w, h1, h2, h3, h4⟩ := hs.yes hz
    obtain ⟨c1, c2, c3, c4, c5, c6⟩ := syncE_zero hz
    rw [h3]
    refine h.setAt _ fun y hy => ?_
    show own.length ≤ B
    obtain ⟨was, hw, _⟩ := has_at c1.right c4
    rw [h2]
    exact Nat.le_trans (gotS_sub (List.getElem?_eq_some_iff.1 hw).1 h1.inv.len).length_le ht
  · obtain ⟨h1, _⟩ := hs.no hz
    rw [h1]
    intro y hy; cases hy
theorem isName_le {s : ByteArray} (h : isName s = true) : s.size ≤ 64 := by
  unfold isName at h
  simp only [Bool.and_eq_true, decide_eq_true_eq] at h
  exact h.2.2
theorem ChkG.ok {x : Group} (h : ChkG x) : x.ok := by
  refine ⟨Nat.le_trans (isName_le h.name) (by decide), ?_, ?_, trivial⟩
  · unfold I64; have h1 := h.gen0; have h2 := h.gen1; omega
  · unfold I64; rw [h.state]
    unfold stateG
    repeat' split
    all_goals omega
end Go.Wm
namespace Go.Wm
open Go.RowKit Go.Proofs
theorem small_own {g : Group} (h : SmallG g) : OwnB 4398046511104 g.l := fun y hy => by
  have := (h.2 y hy).2
  omega
theorem smallG_of {x : Group} (h : ChkG x) (ho : OwnB 4398046511104 x.l) : SmallG x := ⟨by have := h.few; omega, fun m hm => by
  have h1 := ho m hm
  have h2 := (right_all.1 h.right).1 m hm
  unfold memOk at h2
  simp only [Bool.and_eq_true, decide_eq_true_eq] at h2
  have h3 := h2.2.2.2.1
  exact ⟨by omega, by omega⟩⟩
attribute [local irreducible] RG CG EG WA Loc Det Alc CT Exit.then Exit.inBlock Code.wp bodyPost
end Go.Wm

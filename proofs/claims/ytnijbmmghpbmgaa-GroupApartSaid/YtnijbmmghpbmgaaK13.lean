/-
  Whatever is done to a group, in plain Lean. Conditions: none.
-/
import Derived.Test.YtnijbmmghpbmgaaL2
set_option linter.all false
namespace Go.Wm
open Go.RowKit Go.Proofs
/-- What is so behind anything that is done. -/
structure DoneOk (B : Nat) (g : Group) (q : Group × Int) : Prop where
  no : q.2 ≠ 0 → q.1 = noG
  chk : q.2 = 0 → ChkG q.1
  lo : q.2 = 0 → g.gen ≤ q.1.gen
  hi : q.2 = 0 → q.1.gen ≤ g.gen + 1
  stay : q.2 = 0 → q.1.gen = g.gen → g.state = 2 → q.1.state ≠ 2 → q.1.l.length = 0
  own : OwnB B q.1.l
theorem DoneOk.bad {B : Nat} {g : Group} {e : Int} (h : e ≠ 0) : DoneOk B g (noG, e) := ⟨fun _ => rfl, fun h0 => absurd h0 h, fun h0 => absurd h0 h, fun h0 => absurd h0 h, fun h0 => absurd h0 h, fun y hy => by cases hy⟩
theorem finJ_done {B : Nat} {g : Group} {l : List Member} {x : Member} {b : Bool} (hg : ChkG g) (hs : l.Sublist g.l) (hx : x.joined = true) (hok : (finJ g l x b).2 = 0 → ChkG (finJ g l x b).1) (hown : OwnB B (finJ g l x b).1.l) : DoneOk B g (finJ g l x b) := by
  unfold finJ at hok hown ⊢
  split
  · rename_i hb
    rw [if_pos hb] at hok hown
    split
    · rename_i hgen
      rw [if_pos hgen] at hok hown
      exact ⟨fun h => absurd rfl h, hok, fun _ => by show g.gen ≤ g.gen + 1; omega, fun _ => Int.le_refl _, fun _ h => by have h : g.gen + 1 = g.gen := h; omega, hown⟩
    · exact .bad (by decide)
  · rename_i hb
    rw [if_neg hb] at hok hown
    refine ⟨fun h => absurd rfl h, hok, fun _ => Int.le_refl _, fun _ => by show g.gen ≤ g.gen + 1; omega, fun _ _ h2 h3 => absurd ?_ h3, hown⟩
    show stateG (insM x l) = 2
    have hj := (stateG_two.1 (hg.state ▸ h2)).2
    refine stateG_two.2 ⟨by rw [ins_len]; omega, fun y hy => ?_⟩
    rcases mem_ins.1 hy with rfl | hy
    · exact hx
    · exact hj y (hs.subset hy)
theorem done_join {B : Nat} {g : Group} {m : Member} {now : Int} (hb : OwnB B g.l) : DoneOk B g (joinG g m now) := by
  have hok := @join_ok g m now
  have hown := join_own (m := m) (now := now) hb
  have hj := join_ways g m now
  generalize joinG g m now = r at hj hok hown ⊢
  cases hj with
  | bad h he => rw [he]; exact .bad h
  | arg h h2 => exact .bad (by decide)
  | back h h2 hi hid hst => exact finJ_done h (del_sub _ _) rfl hok hown
  | stays h h2 hno hi hs hst => exact finJ_done h (del_sub _ _) rfl hok hown
  | many h hn => exact .bad (by decide)
  | new h h2 hno hs hn => exact finJ_done h (List.Sublist.refl _) rfl hok hown
theorem done_sync {B : Nat} {g x : Group} {id : ByteArray} {gen now : Int} {tps own : List Tp} {e : Int} (hs : SyncR g id gen now tps x own e) (hb : OwnB B g.l) (ht : tps.length ≤ B) : DoneOk B g (x, e) := by
  have hok := sync_ok hs
  have hown := sync_own hs hb ht
  by_cases hz : syncE g id gen now tps = 0
  · obtain ⟨w, h1, h2, h3, h4⟩ := hs.yes hz
    subst h4
    have hst : x.state = g.state := by rw [h3]
    have hge : x.gen = g.gen := by rw [h3]
    exact ⟨fun h => absurd rfl h, hok, fun _ => by show g.gen ≤ x.gen; omega, fun _ => by show x.gen ≤ g.gen + 1; omega, fun _ _ h5 h6 => absurd (hst.trans h5) h6, hown⟩
  · obtain ⟨h1, h2, h3⟩ := hs.no hz
    rw [h1, h3]; exact .bad hz
theorem done_beat {B : Nat} {g : Group} {id : ByteArray} {gen now : Int} (hb : OwnB B g.l) : DoneOk B g (beatG g id gen now) := by
  have hok := @beat_ok g id gen now
  have hown := beat_own (id := id) (gen := gen) (now := now) hb
  unfold beatG at hok hown ⊢
  split
  · rename_i h; exact .bad h
  rename_i h1
  rw [if_neg h1] at hok hown
  split
  · exact .bad (by decide)
  rename_i h2
  rw [if_neg h2] at hok hown
  split
  · exact .bad (by decide)
  rename_i h3
  rw [if_neg h3] at hok hown
  split
  · exact .bad (by decide)
  rename_i h4
  rw [if_neg h4] at hok hown
  split
  · exact .bad (by decide)
  rename_i h5
  rw [if_neg h5] at hok hown
  exact ⟨fun h => absurd rfl h, hok, fun _ => Int.le_refl _, fun _ => by show g.gen ≤ g.gen + 1; omega, fun _ _ h6 h7 => absurd h6 h7, hown⟩
theorem less_done {B : Nat} {g : Group} {l : List Member} (hg : ChkG g) (hs : l.Sublist g.l) (hb : OwnB B g.l) : DoneOk B g (lessG g l) := by
  have hok := less_ok hg hs
  have hown := less_own (g := g) (hb.sub hs)
  unfold lessG at hok hown ⊢
  split
  · rename_i hc
    rw [if_pos hc] at hok hown
    split
    · rename_i hgen
      rw [if_pos hgen] at hok hown
      exact ⟨fun h => absurd rfl h, hok, fun _ => by show g.gen ≤ g.gen + 1; omega, fun _ => Int.le_refl _, fun _ h => by have h : g.gen + 1 = g.gen := h; omega, hown⟩
    · exact .bad (by decide)
  · rename_i hc
    rw [if_neg hc] at hok hown
    refine ⟨fun h => absurd rfl h, hok, fun _ => Int.le_refl _, fun _ => by show g.gen ≤ g.gen + 1; omega, fun _ _ h2 h3 => ?_, hown⟩
    show l.length = 0
    apply Classical.byContradiction
    intro h0
    have hle := hs.length_le
    have : l = g.l := hs.eq_of_length (by
      apply Classical.byContradiction
      intro hne
      exact hc ⟨by omega, by omega, h2⟩)
    subst this
    exact h3 (hg.state.symm.trans h2)
theorem done_leave {B : Nat} {g : Group} {id : ByteArray} (hb : OwnB B g.l) : DoneOk B g (leaveG g id) := by
  unfold leaveG
  split
  · rename_i h; exact .bad h
  rename_i h1
  split
  · exact .bad (by decide)
  · exact less_done (chk_all (Decidable.not_not.1 h1)) List.filter_sublist hb
theorem done_tick {B : Nat} {g : Group} {now most : Int} (hb : OwnB B g.l) : DoneOk B g (tickG g now most) := by
  unfold tickG
  split
  · rename_i h; exact .bad h
  rename_i h1
  split
  · exact .bad (by decide)
  · exact less_done (chk_all (Decidable.not_not.1 h1)) List.filter_sublist hb
end Go.Wm

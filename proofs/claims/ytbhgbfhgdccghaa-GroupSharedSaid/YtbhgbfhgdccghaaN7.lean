/-
  A group that is changed, the program's: what is told, a round. Conditions: that the group lies in memory as it should.
-/
import Derived.Test.YtbhgbfhgdccghaaN6
set_option linter.all false
namespace Go.Wm
open Go.RowKit Go.Proofs
def curU (l : List Member) (i : Nat) : List Member := (l.take i).map unjoin ++ l.drop i
theorem curU_zero (l : List Member) : curU l 0 = l := by simp [curU]
theorem curU_len (l : List Member) (i : Nat) : (curU l i).length = l.length := by
  unfold curU
  rw [List.length_append, List.length_map, List.length_take, List.length_drop]; omega
theorem curU_end (l : List Member) : curU l l.length = l.map unjoin := by simp [curU]
theorem curU_at {l : List Member} {i : Nat} (h : i < l.length) : (curU l i)[i]? = some l[i] := by
  unfold curU
  have e : ((l.take i).map unjoin).length = i := by rw [List.length_map, List.length_take]; omega
  rw [List.getElem?_append_right (by omega), e, Nat.sub_self, List.getElem?_drop, Nat.add_zero, List.getElem?_eq_getElem h]
theorem curU_succ {l : List Member} {i : Nat} (h : i < l.length) : curU l (i + 1) = (curU l i).set i (unjoin l[i]) := by
  unfold curU
  rw [List.take_succ_eq_append_getElem h, List.map_append, List.set_append_right _ _ (by simp; omega)]
  have e : i - ((l.take i).map unjoin).length = 0 := by simp; omega
  rw [e]
  simp only [List.append_assoc]
  rw [List.drop_eq_getElem_cons h]; rfl
attribute [local irreducible] RG CG EG WA Loc Det Alc CT Exit.then Exit.inBlock Code.wp bodyPost
set_option maxHeartbeats 1000000 in
theorem told_ctm {N : Nat} {KK k : PH} {bk : Nat} {v : Value} {g : Group} {e : Int} (h : KeepAt0 N KK k bk v g e) :
    CTM Try.prog 42 #[.pointer (some ⟨bk, 0, none⟩)] k (fun x => x = bk) (GrpR N KK (toldG g e)) := by
  refine ctm_of_body (l := [_]) Try.func42 rfl Try.ntmps42 (by simp) fun F hF0 hFm hlt => ?_
  obtain ⟨a, c, rfl, hsl⟩ := h.sl
  repeat (first | refine cg_seq ?_ | refine cg_region ?_ | refine rg_nil ?_ | refine eg_then ?_ | refine qsp ?_ | refine qsn ?_ | refine qsa ?_ | refine qss ?_ | refine qsi ?_ | refine qsz ?_ | refine qsl ?_ | refine qsg ?_ | refine qsf ?_ | refine qsd ?_ | refine qsE ?_ | refine qsX ?_ | refine qse ?_ | refine qsx ?_ | refine qso ?_ | refine cg_cond_true rfl ?_ | refine cg_cond_false rfl ?_ | refine cg_skip ?_ | refine cg_block ?_ | refine eg_in_normal ?_ | refine cg_ret ?_ | refine eg_then_ret ?_ | refine eg_in_ret ?_ | refine cg_exit ?_ | refine eg_then_exit ?_ | refine eg_in_exit ?_ | refine eg_in_other rfl ?_)
  refine rb rfl rfl rfl rfl (a_alloc rfl) ?_; intro b2 k2 hb2 hN2 hle2 hk2
  have n2 : bk ≠ b2 := fun e => by have := h.at'; rw [e, hb2] at this; cases this
  have hKb2 : KK b2 = none := by
    cases hc : KK b2 with
    | none => rfl
    | some ob => have := h.le _ _ hc; rw [hb2] at this; cases this
  have h := h.up hle2
  have hsl := hsl.le hle2
  have c4 := (cells_at (vs := kCells g (.slice a g.l.length c) e) h.at' rfl).one (i := 4) rfl
  have c3 := (cells_at (vs := kCells g (.slice a g.l.length c) e) h.at' rfl).one (i := 3) rfl
  repeat (first | refine cg_seq ?_ | refine cg_region ?_ | refine rg_nil ?_ | refine eg_then ?_ | refine qsp ?_ | refine qsn ?_ | refine qsa ?_ | refine qss ?_ | refine qsi ?_ | refine qsz ?_ | refine qsl ?_ | refine qsg ?_ | refine qsf ?_ | refine qsd ?_ | refine qsE ?_ | refine qsX ?_ | refine qse ?_ | refine qsx ?_ | refine qso ?_ | refine cg_cond_true rfl ?_ | refine cg_cond_false rfl ?_ | refine cg_skip ?_ | refine cg_block ?_ | refine eg_in_normal ?_ | refine cg_ret ?_ | refine eg_then_ret ?_ | refine eg_in_ret ?_ | refine cg_exit ?_ | refine eg_then_exit ?_ | refine eg_in_exit ?_ | refine eg_in_other rfl ?_)
  cases q1 : (e != 0)
  case true =>
    have he : e ≠ 0 := by simpa using q1
    repeat (first | refine cg_seq ?_ | refine cg_region ?_ | refine rg_nil ?_ | refine eg_then ?_ | refine qsp ?_ | refine qsn ?_ | refine qsa ?_ | refine qss ?_ | refine qsi ?_ | refine qsz ?_ | refine qsl ?_ | refine qsg ?_ | refine qsf ?_ | refine qsd ?_ | refine qsE ?_ | refine qsX ?_ | refine qse ?_ | refine qsx ?_ | refine qso ?_ | refine cg_cond_true rfl ?_ | refine cg_cond_false rfl ?_ | refine cg_skip ?_ | refine cg_block ?_ | refine eg_in_normal ?_ | refine cg_ret ?_ | refine eg_then_ret ?_ | refine eg_in_ret ?_ | refine cg_exit ?_ | refine eg_then_exit ?_ | refine eg_in_exit ?_ | refine eg_in_other rfl ?_)
    have cd4 := c4.delL (rs := [b2]) (by simpa using n2)
    refine cg_chain 6 [5] (fun _ => [(b2, .cells (noG.cs none 0).toArray 24 (0, 0))]) [b2] (fun _ => rfl) (by kernel_rfl) (by kernel_rfl) rfl (by kernel_rfl) rfl (fun p' hp' => by simp at hp'; rw [hp']; exact hk2) (fun r hr => by simp at hr; rw [hr]; exact hN2) ?_
    dsimp only [List.take]
    refine wc_s rfl (loc_det rfl (d_lit (cells := noG.cs none 0) rfl rfl rfl)) rfl ?_
    repeat (first | refine qcp ?_ | refine qcn ?_ | refine qca ?_ | refine qcs ?_ | refine qci ?_ | refine qcz ?_ | refine qcl ?_ | refine qcg ?_ | refine qcf ?_ | refine qcd ?_ | refine qcE ?_ | refine qcX ?_ | refine qce ?_ | refine qcx ?_ | refine qco ?_)
    refine wc_e 0 rfl (effs_stoL (j := 0) (vs := noG.cs none 0) (c := (noG.cs none 0).toArray) rfl rfl rfl rfl rfl (by simp [Group.cs, Value.oneCell']) rfl rfl rfl (fun i p' h1 h2 => by cases i with | zero => exact absurd rfl h2 | succ i => simp at h1) hN2) ?_
    refine wc_nil ?_
    intro k3 vs hle3 _
    dsimp only [List.drop, set, argEnv, nameE, nameP]
    have hk4 : setL k3 [(b2, .cells (noG.cs none 0).toArray 24 (0, 0))] b2 = some (.cells (noG.cs none 0).toArray 24 (0, 0)) := upd_same _ _ _
    change RG _ _ _ _ _ _ _ (setL k3 [(b2, .cells (noG.cs none 0).toArray 24 (0, 0))])
    generalize setL k3 [(b2, .cells (noG.cs none 0).toArray 24 (0, 0))] = k4 at hk4 ⊢
    repeat (first | refine cg_seq ?_ | refine cg_region ?_ | refine rg_nil ?_ | refine eg_then ?_ | refine qsp ?_ | refine qsn ?_ | refine qsa ?_ | refine qss ?_ | refine qsi ?_ | refine qsz ?_ | refine qsl ?_ | refine qsg ?_ | refine qsf ?_ | refine qsd ?_ | refine qsE ?_ | refine qsX ?_ | refine qse ?_ | refine qsx ?_ | refine qso ?_ | refine cg_cond_true rfl ?_ | refine cg_cond_false rfl ?_ | refine cg_skip ?_ | refine cg_block ?_ | refine eg_in_normal ?_ | refine cg_ret ?_ | refine eg_then_ret ?_ | refine eg_in_ret ?_ | refine cg_exit ?_ | refine eg_then_exit ?_ | refine eg_in_exit ?_ | refine eg_in_other rfl ?_)
    refine eg_returnC2 rfl rfl rfl rfl (cells_at (vs := noG.cs none 0) hk4 rfl) rfl ?_
    unfold toldG; rw [if_pos he]; exact ⟨none, 0, [], rfl, Pieces.nil _ _, row_nil _ _ _ _⟩
  have he : e = 0 := by simpa using q1
  repeat (first | refine cg_seq ?_ | refine cg_region ?_ | refine rg_nil ?_ | refine eg_then ?_ | refine qsp ?_ | refine qsn ?_ | refine qsa ?_ | refine qss ?_ | refine qsi ?_ | refine qsz ?_ | refine qsl ?_ | refine qsg ?_ | refine qsf ?_ | refine qsd ?_ | refine qsE ?_ | refine qsX ?_ | refine qse ?_ | refine qsx ?_ | refine qso ?_ | refine cg_cond_true rfl ?_ | refine cg_cond_false rfl ?_ | refine cg_skip ?_ | refine cg_block ?_ | refine eg_in_normal ?_ | refine cg_ret ?_ | refine eg_then_ret ?_ | refine eg_in_ret ?_ | refine cg_exit ?_ | refine eg_then_exit ?_ | refine eg_in_exit ?_ | refine eg_in_other rfl ?_)
  refine rs rfl rfl (loc_call_is rfl rfl rfl rfl (state_ct hsl)) ?_
  repeat (first | refine cg_seq ?_ | refine cg_region ?_ | refine rg_nil ?_ | refine eg_then ?_ | refine qsp ?_ | refine qsn ?_ | refine qsa ?_ | refine qss ?_ | refine qsi ?_ | refine qsz ?_ | refine qsl ?_ | refine qsg ?_ | refine qsf ?_ | refine qsd ?_ | refine qsE ?_ | refine qsX ?_ | refine qse ?_ | refine qsx ?_ | refine qso ?_ | refine cg_cond_true rfl ?_ | refine cg_cond_false rfl ?_ | refine cg_skip ?_ | refine cg_block ?_ | refine eg_in_normal ?_ | refine cg_ret ?_ | refine eg_then_ret ?_ | refine eg_in_ret ?_ | refine cg_exit ?_ | refine eg_then_exit ?_ | refine eg_in_exit ?_ | refine eg_in_other rfl ?_)
  refine rw0 rfl rfl rfl rfl rfl rfl rfl rfl h.at' (by show _ < 5; omega) (.inr (by rw [hFm])) ?_; intro k3 ht3 hk3
  have h3 : KeepAt0 N KK k3 bk (.slice a g.l.length c) { g with state := stateG g.l } e := h.turn ht3 hk3 rfl
  have hk23 := turn1_get ht3 (Ne.symm n2) hk2
  have cw : Cells k3 bk (0 + 0) (({ g with state := stateG g.l } : Group).cs a c) := (cells_at (vs := kCells { g with state := stateG g.l } (.slice a g.l.length c) e) h3.at' rfl).win (n := 4) 0 rfl
  obtain ⟨a', c', hve, hsl3⟩ := h3.sl
  cases hve
  repeat (first | refine cg_seq ?_ | refine cg_region ?_ | refine rg_nil ?_ | refine eg_then ?_ | refine qsp ?_ | refine qsn ?_ | refine qsa ?_ | refine qss ?_ | refine qsi ?_ | refine qsz ?_ | refine qsl ?_ | refine qsg ?_ | refine qsf ?_ | refine qsd ?_ | refine qsE ?_ | refine qsX ?_ | refine qse ?_ | refine qsx ?_ | refine qso ?_ | refine cg_cond_true rfl ?_ | refine cg_cond_false rfl ?_ | refine cg_skip ?_ | refine cg_block ?_ | refine eg_in_normal ?_ | refine cg_ret ?_ | refine eg_then_ret ?_ | refine eg_in_ret ?_ | refine cg_exit ?_ | refine eg_then_exit ?_ | refine eg_in_exit ?_ | refine eg_in_other rfl ?_)
  refine rw1 (vs := ({ g with state := stateG g.l } : Group).cs a c) rfl rfl rfl rfl rfl rfl rfl hk23 rfl (.inl hN2) ?_ ?_
  · simp [Group.cs, Value.oneCell']
  intro k4 ht4 hk4
  repeat (first | refine cg_seq ?_ | refine cg_region ?_ | refine rg_nil ?_ | refine eg_then ?_ | refine qsp ?_ | refine qsn ?_ | refine qsa ?_ | refine qss ?_ | refine qsi ?_ | refine qsz ?_ | refine qsl ?_ | refine qsg ?_ | refine qsf ?_ | refine qsd ?_ | refine qsE ?_ | refine qsX ?_ | refine qse ?_ | refine qsx ?_ | refine qso ?_ | refine cg_cond_true rfl ?_ | refine cg_cond_false rfl ?_ | refine cg_skip ?_ | refine cg_block ?_ | refine eg_in_normal ?_ | refine cg_ret ?_ | refine eg_then_ret ?_ | refine eg_in_ret ?_ | refine cg_exit ?_ | refine eg_then_exit ?_ | refine eg_in_exit ?_ | refine eg_in_other rfl ?_)
  refine eg_returnC2 rfl rfl rfl rfl (cells_at (vs := ({ g with state := stateG g.l } : Group).cs a c) hk4 rfl) rfl ?_
  unfold toldG; rw [if_neg (fun hh => hh he)]
  obtain ⟨css, u1, u2⟩ := h3.row
  exact ⟨a, c, css, rfl, u1, u2.turnY ht4 hk23 (by decide)⟩
set_option maxHeartbeats 1000000 in
theorem round_ctm {N : Nat} {KK k : PH} {bk : Nat} {v : Value} {g : Group} {e : Int} (h : KeepAt N KK k bk v g e) (hg : I64 g.gen) (hg2 : I64 (g.gen + 1)) :
    CTM Try.prog 51 #[.pointer (some ⟨bk, 0, none⟩)] k (fun x => x = bk ∨ v.ownBlock = some x) (fun k' u => u = .tuple #[] ∧ KeepAt N KK k' bk v (roundG g) (wantE e (decide (g.gen < 1048576)) 2)) := by
  refine ctm_of_body (l := [_]) Try.func51 rfl Try.ntmps51 (by simp) fun F hF0 hFm hlt => ?_
  unfold I64 at hg hg2
  have om : F.w0.heap.size ≤ bk ∨ F.mu bk := .inr (by rw [hFm]; exact .inl rfl)
  have c1 := (cells_at (vs := kCells g v e) h.at' rfl).one (i := 1) rfl
  repeat (first | refine cg_seq ?_ | refine cg_region ?_ | refine rg_nil ?_ | refine eg_then ?_ | refine qsp ?_ | refine qsn ?_ | refine qsa ?_ | refine qss ?_ | refine qsi ?_ | refine qsz ?_ | refine qsl ?_ | refine qsg ?_ | refine qsf ?_ | refine qsd ?_ | refine qsE ?_ | refine qsX ?_ | refine qse ?_ | refine qsx ?_ | refine qso ?_ | refine cg_cond_true rfl ?_ | refine cg_cond_false rfl ?_ | refine cg_skip ?_ | refine cg_block ?_ | refine eg_in_normal ?_ | refine cg_ret ?_ | refine eg_then_ret ?_ | refine eg_in_ret ?_ | refine cg_exit ?_ | refine eg_then_exit ?_ | refine eg_in_exit ?_ | refine eg_in_other rfl ?_)
  refine rcm rfl rfl rfl rfl rfl rfl rfl (want_ctm h (decide (g.gen < 1048576)) 2) (fun b hb => by rw [hb]; exact om) ?_
  rintro _ k2 _ ⟨rfl, h2⟩
  generalize wantE e (decide (g.gen < 1048576)) 2 = e2 at h2 ⊢
  have c1 := (cells_at (vs := kCells g v e2) h2.at' rfl).one (i := 1) rfl
  repeat (first | refine cg_seq ?_ | refine cg_region ?_ | refine rg_nil ?_ | refine eg_then ?_ | refine qsp ?_ | refine qsn ?_ | refine qsa ?_ | refine qss ?_ | refine qsi ?_ | refine qsz ?_ | refine qsl ?_ | refine qsg ?_ | refine qsf ?_ | refine qsd ?_ | refine qsE ?_ | refine qsX ?_ | refine qse ?_ | refine qsx ?_ | refine qso ?_ | refine cg_cond_true rfl ?_ | refine cg_cond_false rfl ?_ | refine cg_skip ?_ | refine cg_block ?_ | refine eg_in_normal ?_ | refine cg_ret ?_ | refine eg_then_ret ?_ | refine eg_in_ret ?_ | refine cg_exit ?_ | refine eg_then_exit ?_ | refine eg_in_exit ?_ | refine eg_in_other rfl ?_)
  refine rw0 rfl rfl rfl rfl rfl rfl rfl rfl h2.at' (by show _ < 5; omega) om ?_; intro k3 ht3 hk3
  have h3 : KeepAt N KK k3 bk v { g with gen := g.gen + 1 } e2 := h2.turn ht3 hk3 rfl
  obtain ⟨a, c, rfl, hsl⟩ := h3.sl
  have b1 := hsl.cap; have b2 := hsl.max; unfold maxLen at b2
  have c3 := (cells_at (vs := kCells { g with gen := g.gen + 1 } (.slice a g.l.length c) e2) h3.at' rfl).one (i := 3) rfl
  dsimp only at c3 b1 b2
  clear c1 hk3 ht3
  repeat (first | refine cg_seq ?_ | refine cg_region ?_ | refine rg_nil ?_ | refine eg_then ?_ | refine qsp ?_ | refine qsn ?_ | refine qsa ?_ | refine qss ?_ | refine qsi ?_ | refine qsz ?_ | refine qsl ?_ | refine qsg ?_ | refine qsf ?_ | refine qsd ?_ | refine qsE ?_ | refine qsX ?_ | refine qse ?_ | refine qsx ?_ | refine qso ?_ | refine cg_cond_true rfl ?_ | refine cg_cond_false rfl ?_ | refine cg_skip ?_ | refine cg_block ?_ | refine eg_in_normal ?_ | refine cg_ret ?_ | refine eg_then_ret ?_ | refine eg_in_ret ?_ | refine cg_exit ?_ | refine eg_then_exit ?_ | refine eg_in_exit ?_ | refine eg_in_other rfl ?_)
  refine cg_loop (fun (i : Nat) e k' => KeepAt N KK k' bk (.slice a g.l.length c) { g with gen := g.gen + 1, l := curU g.l i } e2 ∧ i ≤ g.l.length ∧ e = [(0, .is (.pointer (some ⟨bk, 0, none⟩))), (25, .is (.int .i64 (g.l.length : Int))), (26, .is (.int .i64 (i : Int)))])
    (fun i => g.l.length - i) 0 ⟨by rw [curU_zero]; exact h3, Nat.zero_le _, rfl⟩ ⟨rfl, rfl, rfl, trivial⟩ ?_
  rintro i e k4 ⟨h4, hi, rfl⟩
  repeat (first | refine cg_seq ?_ | refine cg_region ?_ | refine rg_nil ?_ | refine eg_then ?_ | refine qsp ?_ | refine qsn ?_ | refine qsa ?_ | refine qss ?_ | refine qsi ?_ | refine qsz ?_ | refine qsl ?_ | refine qsg ?_ | refine qsf ?_ | refine qsd ?_ | refine qsE ?_ | refine qsX ?_ | refine qse ?_ | refine qsx ?_ | refine qso ?_ | refine cg_cond_true rfl ?_ | refine cg_cond_false rfl ?_ | refine cg_skip ?_ | refine cg_block ?_ | refine eg_in_normal ?_ | refine cg_ret ?_ | refine eg_then_ret ?_ | refine eg_in_ret ?_ | refine cg_exit ?_ | refine eg_then_exit ?_ | refine eg_in_exit ?_ | refine eg_in_other rfl ?_)
  refine cg_cond rfl (fun h => ?_) (fun h => ?_)
  rotate_left
  · have hil : i = g.l.length := by have := of_decide_eq_false h; omega
    rw [hil, curU_end] at h4
    repeat (first | refine cg_seq ?_ | refine cg_region ?_ | refine rg_nil ?_ | refine eg_then ?_ | refine qsp ?_ | refine qsn ?_ | refine qsa ?_ | refine qss ?_ | refine qsi ?_ | refine qsz ?_ | refine qsl ?_ | refine qsg ?_ | refine qsf ?_ | refine qsd ?_ | refine qsE ?_ | refine qsX ?_ | refine qse ?_ | refine qsx ?_ | refine qso ?_ | refine cg_cond_true rfl ?_ | refine cg_cond_false rfl ?_ | refine cg_skip ?_ | refine cg_block ?_ | refine eg_in_normal ?_ | refine cg_ret ?_ | refine eg_then_ret ?_ | refine eg_in_ret ?_ | refine cg_exit ?_ | refine eg_then_exit ?_ | refine eg_in_exit ?_ | refine eg_in_other rfl ?_)
    exact eg_done rfl ⟨rfl, h4⟩
  have hlt' : i < g.l.length := by have := of_decide_eq_true h; omega
  obtain ⟨css, u1, u2, u3⟩ := h4.row
  dsimp only at u1 u2 u3
  rw [curU_len] at u2
  have hcl : css.length = g.l.length := by rw [u1.1, curU_len]
  have hcs := List.getElem?_eq_getElem (show i < css.length by omega)
  obtain ⟨a0, c0, a1, c1, hce, hsl4, hmok⟩ := u1.2 i _ _ hcs (curU_at hlt')
  rw [hce] at hcs
  obtain ⟨gb, cap, cur, hve, hgN, hkg, hglt, hcg, hset⟩ := Row.cell (i := i) (j := 4) (cs := g.l[i].cs a0 c0 a1 c1) u2 (fun y hy => u1.len y hy) hcs (by omega)
  cases hve
  have hne : gb ≠ bk := fun e => by rw [e, h4.at'] at hkg; cases hkg
  have hKg : KK gb = none := h4.ap gb rfl
  have ck := (cells_at (vs := kCells { g with gen := g.gen + 1, l := curU g.l i } (.slice (some ⟨gb, 0, none⟩) g.l.length c) e2) h4.at' rfl).one (i := 3) rfl
  repeat (first | refine cg_seq ?_ | refine cg_region ?_ | refine rg_nil ?_ | refine eg_then ?_ | refine qsp ?_ | refine qsn ?_ | refine qsa ?_ | refine qss ?_ | refine qsi ?_ | refine qsz ?_ | refine qsl ?_ | refine qsg ?_ | refine qsf ?_ | refine qsd ?_ | refine qsE ?_ | refine qsX ?_ | refine qse ?_ | refine qsx ?_ | refine qso ?_ | refine cg_cond_true rfl ?_ | refine cg_cond_false rfl ?_ | refine cg_skip ?_ | refine cg_block ?_ | refine eg_in_normal ?_ | refine cg_ret ?_ | refine eg_then_ret ?_ | refine eg_in_ret ?_ | refine cg_exit ?_ | refine eg_then_exit ?_ | refine eg_in_exit ?_ | refine eg_in_other rfl ?_)
  refine rw0 rfl rfl rfl rfl rfl rfl rfl rfl hkg (show 0 + i * 6 + 4 < cur.size by omega) (.inr (by rw [hFm]; exact .inr rfl)) ?_; intro k5 ht5 hk5
  have hrow5 := hset k5 (.bool false) ht5 (by rw [hk5]; simp)
  repeat (first | refine cg_seq ?_ | refine cg_region ?_ | refine rg_nil ?_ | refine eg_then ?_ | refine qsp ?_ | refine qsn ?_ | refine qsa ?_ | refine qss ?_ | refine qsi ?_ | refine qsz ?_ | refine qsl ?_ | refine qsg ?_ | refine qsf ?_ | refine qsd ?_ | refine qsE ?_ | refine qsX ?_ | refine qse ?_ | refine qsx ?_ | refine qso ?_ | refine cg_cond_true rfl ?_ | refine cg_cond_false rfl ?_ | refine cg_skip ?_ | refine cg_block ?_ | refine eg_in_normal ?_ | refine cg_ret ?_ | refine eg_then_ret ?_ | refine eg_in_ret ?_ | refine cg_exit ?_ | refine eg_then_exit ?_ | refine eg_in_exit ?_ | refine eg_in_other rfl ?_)
  refine eg_again (i + 1) _ ⟨⟨turn1_get ht5 (Ne.symm hne) h4.at', h4.nb, ht5 KK h4.le hKg, h4.kb, h4.ap, css.set i ((g.l[i].cs a0 c0 a1 c1).set 4 (.bool false)), ?_, ?_, ?_⟩, hlt', rfl⟩ (by omega) ⟨rfl, rfl, rfl, trivial⟩
  · dsimp only
    rw [curU_succ hlt']
    exact u1.set i ⟨a0, c0, a1, c1, rfl, hsl4, hmok⟩
  · dsimp only
    rw [curU_len]
    exact hrow5
  · dsimp only
    rw [curU_succ hlt']
    exact u3.set hcs (curU_at hlt') (fun x => ⟨x.own, x.subs⟩) rfl
end Go.Wm

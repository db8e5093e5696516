/-
  The document's with. Conditions: that what is handed in reads as data.
-/
import Derived.Test.YtnijbmmghpbmgaaR9
set_option linter.all false
namespace Go.Wm
open Go.RowKit Go.Proofs
def aboveM (x y : Member) : Bool := decide (cmpStr x.id y.id < 0)
def posW (x : Member) (l : List Member) : Nat := l.findIdx (aboveM x)
def withM (x : Member) (l : List Member) : List Member := l.take (posW x l) ++ x :: l.drop (posW x l)
/-- What is there behind i steps. -/
def curW (x : Member) (l : List Member) (i : Nat) : List Member := if posW x l < i then l.take (posW x l) ++ x :: (l.take i).drop (posW x l) else l.take i
theorem posW_le (x : Member) (l : List Member) : posW x l ≤ l.length := List.findIdx_le_length
theorem posW_at {x : Member} {l : List Member} {i : Nat} (hi : i < l.length) (h0 : ¬ posW x l < i) (h : aboveM x l[i] = true) : posW x l = i := by
  rcases Nat.lt_or_ge i (posW x l) with h1 | h1
  · have : aboveM x l[i] = false := by simpa using List.not_of_lt_findIdx h1
    rw [this] at h; cases h
  · omega
theorem posW_no {x : Member} {l : List Member} {i : Nat} (hi : i < l.length) (h0 : ¬ posW x l < i) (h : aboveM x l[i] = false) : ¬ posW x l < i + 1 := by
  intro h1
  have he : posW x l = i := by omega
  have := @List.findIdx_getElem _ (aboveM x) l (by show posW x l < l.length; omega)
  have h2 : l[l.findIdx (aboveM x)]'(by show posW x l < l.length; omega) = l[i] := by congr 1
  rw [h2, h] at this; cases this
theorem curW_zero (x : Member) (l : List Member) : curW x l 0 = [] := by unfold curW; rw [if_neg (by omega)]; rfl
theorem curW_done {x : Member} {l : List Member} {i : Nat} (hi : i < l.length) (h : posW x l < i) : curW x l (i + 1) = curW x l i ++ [l[i]] := by
  unfold curW
  rw [if_pos h, if_pos (by omega), List.take_succ_eq_append_getElem hi, List.drop_append_of_le_length (by rw [List.length_take]; omega)]
  simp
theorem curW_now {x : Member} {l : List Member} {i : Nat} (hi : i < l.length) (h0 : ¬ posW x l < i) (h : aboveM x l[i] = true) : curW x l (i + 1) = (curW x l i ++ [x]) ++ [l[i]] := by
  have hp := posW_at hi h0 h
  unfold curW
  rw [if_neg h0, if_pos (by omega), hp, List.take_succ_eq_append_getElem hi, List.drop_append_of_le_length (by rw [List.length_take]; omega), List.drop_eq_nil_of_le (by rw [List.length_take]; omega)]
  simp
theorem curW_not {x : Member} {l : List Member} {i : Nat} (hi : i < l.length) (h0 : ¬ posW x l < i) (h : aboveM x l[i] = false) : curW x l (i + 1) = curW x l i ++ [l[i]] := by
  unfold curW
  rw [if_neg h0, if_neg (posW_no hi h0 h), List.take_succ_eq_append_getElem hi]
theorem curW_end {x : Member} {l : List Member} (h : posW x l < l.length) : curW x l l.length = withM x l := by
  unfold curW withM
  rw [if_pos h, List.take_length]
theorem curW_last {x : Member} {l : List Member} (h : ¬ posW x l < l.length) : curW x l l.length ++ [x] = withM x l := by
  have : posW x l = l.length := by have := posW_le x l; omega
  unfold curW withM
  rw [if_neg h, this, List.drop_length]
theorem curW_len (x : Member) (l : List Member) (i : Nat) : (curW x l i).length ≤ i + 1 := by
  unfold curW
  have := posW_le x l
  split
  · simp; omega
  · simp; omega
attribute [local irreducible] RG CG EG WA Loc Det Alc CT Exit.then Exit.inBlock Code.wp bodyPost
set_option maxHeartbeats 2000000 in
theorem with_ct {k : PH} {g : Group} {a : Option Addr} {c : Nat} (hl : Sl tMember k a c g.l) (hnb : g.l.length * 96 ≤ 100000000000000) {x : Member} {cx : List Value} (hx : tMember.rep k cx x) : CT Try.prog 60 #[.agg (g.cs a c).toArray, .agg cx.toArray] k (GrpA { g with l := withM x g.l }) := by
  obtain ⟨x0, y0, x1, y1, rfl, hxsl, hxok⟩ := hx
  have hxr : tMember.rep k (x.cs x0 y0 x1 y1) x := ⟨x0, y0, x1, y1, rfl, hxsl, hxok⟩
  have ex1 := Member.one k _ x hxr
  refine ct_of_body (l := [_, _]) Try.func60 rfl Try.ntmps60 (by simp) GrpA.mono fun F hF0 hFm => ?_
  have b1 := hl.cap; have b2 := hl.max; unfold maxLen at b2
  repeat (first | refine cg_seq ?_ | refine cg_region ?_)
  refine rb rfl rfl rfl rfl (a_box rfl rfl) ?_; intro b2 k2 hb2 hN2 hle2 hk2
  skip
  refine rb rfl rfl rfl rfl (a_box rfl rfl) ?_; intro b3 k3 hb3 hN3 hle3 hk3
  refine rb rfl rfl rfl rfl (a_alloc rfl) ?_; intro b4 k4 hb4 hN4 hle4 hk4
  have d2 := (cells_at (vs := g.cs a c) hk2 rfl).le (hle3.trans hle4)
  repeat (first | refine cg_seq ?_ | refine cg_region ?_ | refine rg_nil ?_ | refine eg_then ?_ | refine qsg ?_)
  refine rb rfl rfl rfl rfl (a_alloc rfl) ?_; intro b5 k5 hb5 hN5 hle5 hk5
  refine rw1 (vs := g.cs a c) rfl rfl rfl rfl rfl rfl rfl hk5 rfl (.inl hN5) (by simp [Group.cs, Value.oneCell']) ?_
  intro k6 ht6 hk6
  have hle46 : Le k4 k6 := ht6 k4 hle5 hb5
  repeat (first | refine cg_seq ?_ | refine cg_region ?_ | refine rg_nil ?_ | refine eg_then ?_ | refine qsf ?_)
  refine rw0 rfl rfl rfl rfl rfl rfl rfl rfl hk6 (by show _ < 4; omega) (.inl hN5) ?_; intro k7 ht7 hk7
  have hle47 : Le k4 k7 := ht7 k4 hle46 hb5
  have hk7 : k7 b5 = some (.cells (gV g (.slice none 0 0)).toArray 24 (0, 0)) := hk7
  have hl3 := hl.le (hle2.trans hle3)
  have hxr3 := tMember.mono (hle2.trans hle3) hxr
  have hk74 := hle47 _ _ hk4
  have n45 : b4 ≠ b5 := fun e => by rw [e, hb5] at hk4; cases hk4
  have k3b4 : k3 b4 = none := hb4
  have k3b5 : k3 b5 = none := by
    cases hc : k3 b5 with
    | none => rfl
    | some ob => have := hle4 _ _ hc; rw [hb5] at this; cases this
  clear ht6 ht7 hk6 hk5 hle46 d2
  obtain ⟨_, _, _, p3'⟩ := Group.parts ((cells_at (vs := g.cs a c) hk2 rfl).le hle3)
  have w3' := cells_at (vs := x.cs x0 y0 x1 y1) hk3 rfl
  obtain ⟨w0', _, _, _, _, _⟩ := Member.parts w3'
  repeat (first | refine cg_seq ?_ | refine cg_region ?_ | refine rg_nil ?_ | refine eg_then ?_ | refine qsp ?_ | refine cg_block ?_)
  refine cg_loop (fun (i : Nat) e k' => ∃ v css, Le k3 k' ∧ Apart k3 v ∧ Pieces tMember k3 css (curW x g.l i) ∧ Row F.w0.heap.size k' 28 6 v (curW x g.l i).length css.flatten ∧ k' b4 = some (.cells (noG.cs none 0).toArray 24 (0, 0)) ∧ k' b5 = some (.cells (gV g v).toArray 24 (0, 0)) ∧ i ≤ g.l.length ∧
      e = [(2, .is (.pointer (some ⟨b2, 0, none⟩))), (3, .is (.pointer (some ⟨b3, 0, none⟩))), (4, .is (.pointer (some ⟨b4, 0, none⟩))), (5, .is (.pointer (some ⟨b5, 0, none⟩))), (6, .is (.bool (decide (posW x g.l < i)))), (7, .is (.int .i64 (i : Int)))])
    (fun i => g.l.length - i) 0 ⟨.slice none 0 0, [], hle4.trans hle47, apart_nil _ _ _, by rw [curW_zero]; exact Pieces.nil _ _, by rw [curW_zero]; exact row_nil _ _ _ _, hk74, hk7, Nat.zero_le _, rfl⟩ ⟨rfl, rfl, rfl, rfl, rfl, rfl, trivial⟩ ?_
  rintro i e k8 ⟨v, css, hle8, hap, hpc, hrow, hk84, hk85, hi, rfl⟩
  have p3 := p3'.le hle8
  repeat (first | refine cg_seq ?_ | refine cg_region ?_ | refine rg_nil ?_ | refine eg_then ?_ | refine qsp ?_ | refine qsn ?_ | refine qsl ?_ | refine qsf ?_)
  refine cg_cond rfl (fun h => ?_) (fun h => ?_)
  rotate_left
  · have hil : i = g.l.length := by have := of_decide_eq_false h; omega
    cases z0 : decide (posW x g.l < i)
    · have hcw : curW x g.l i ++ [x] = withM x g.l := by rw [hil] at z0 ⊢; exact curW_last (of_decide_eq_false z0)
      repeat (first | refine cg_seq ?_ | refine cg_region ?_ | refine rg_nil ?_ | refine eg_then ?_ | refine qsp ?_ | refine qsf ?_ | refine cg_cond_true rfl ?_ | refine cg_exit ?_ | refine eg_then_exit ?_ | refine eg_in_exit ?_)
      have hv4 : v.ownBlock ≠ some b4 := hrow.owner1 hk84 (by decide)
      have hv5 : v.ownBlock ≠ some b5 := hrow.owner1 hk85 (by decide)
      have hcl := curW_len x g.l i
      have ck := (cells_at (vs := gV g v) hk85 rfl).one (i := 3) rfl
      have w3 := w3'.le hle8
      repeat (first | refine qsl ?_ | refine qsg ?_)
      refine rb rfl rfl rfl rfl (a_slice (cells := x.cs x0 y0 x1 y1) rfl rfl rfl rfl (by kernel_rfl) rfl) ?_; intro b9 k9 hb9 hN9 hle9 hk9
      have c9 := cells_at (vs := x.cs x0 y0 x1 y1) hk9 rfl
      refine rap rfl rfl rfl rfl rfl rfl rfl (hrow.le hle9) c9 rfl ex1 rfl rfl (by unfold maxLen; omega) (by omega) ?_
      intro v10 k10 hrow10 ht10
      obtain ⟨hleA, hapA⟩ := ht10 k3 (hle8.trans hle9) hap
      obtain ⟨hleB, _⟩ := ht10 (delV k8 v) ((delV_le _ _).trans hle9) fun g hg => delV_own hg
      have hk10b := hleB _ _ ((delV_of hv5).trans hk85)
      have hk10c := hleB _ _ ((delV_of hv4).trans hk84)
      clear hleB ht10 ck w3 c9 hk9
      repeat (first | refine qsf ?_)
      refine rw0 rfl rfl rfl rfl rfl rfl hrow10.oneV1 rfl hk10b (by show _ < 4; omega) (.inl hN5) ?_; intro k11 ht11 hk11
      have hle11 : Le k3 k11 := ht11 k3 hleA k3b5
      have hrow11 : Row F.w0.heap.size k11 28 6 v10 (curW x g.l i ++ [x]).length (css ++ [x.cs x0 y0 x1 y1]).flatten := by simpa using hrow10.turnY ht11 hk10b (by decide)
      have hpc11 : Pieces tMember k3 (css ++ [x.cs x0 y0 x1 y1]) (curW x g.l i ++ [x]) := hpc.append (Pieces.one hxr3)
      have hk114 := turn1_get ht11 n45 hk10c
      have hk115 : k11 b5 = some (.cells (gV g v10).toArray 24 (0, 0)) := hk11
      rw [hcw] at hrow11 hpc11
      clear hrow hpc hk84 hk85 hle8 p3 hap
      have hrow := hrow11; have hpc := hpc11; have hk84 := hk114; have hk85 := hk115; have hle8 := hle11
      clear hrow11 hpc11 hk114 hk115 hle11
      have p3 := True.intro
      obtain ⟨a', c', rfl⟩ := row_sl hrow
      have d3 := cells_at (vs := ({ g with l := withM x g.l } : Group).cs a' c') hk85 rfl
      clear p3
      repeat (first | refine cg_seq ?_ | refine cg_region ?_ | refine rg_nil ?_ | refine eg_then ?_ | refine qsg ?_)
      refine rw1 (vs := ({ g with l := withM x g.l } : Group).cs a' c') rfl rfl rfl rfl rfl rfl rfl hk84 rfl (.inl hN4) (by simp [Group.cs, Value.oneCell']) ?_
      intro k9 ht9 hk9
      repeat (first | refine rg_nil ?_ | refine eg_then ?_ | refine cg_ret ?_)
      exact eg_returnC rfl rfl rfl (cells_at (vs := ({ g with l := withM x g.l } : Group).cs a' c') hk9 rfl) rfl ⟨a', c', rfl, GrpR.sl hpc (hrow.turnY ht9 hk84 (by decide)) (ht9 k3 hle8 k3b4)⟩
    · have hcw : curW x g.l i = withM x g.l := by rw [hil] at z0 ⊢; exact curW_end (of_decide_eq_true z0)
      rw [hcw] at hrow hpc
      repeat (first | refine cg_seq ?_ | refine cg_region ?_ | refine rg_nil ?_ | refine eg_then ?_ | refine qsp ?_ | refine cg_cond_false rfl ?_ | refine cg_skip ?_ | refine cg_exit ?_ | refine eg_then_exit ?_ | refine eg_in_exit ?_)
      obtain ⟨a', c', rfl⟩ := row_sl hrow
      have d3 := cells_at (vs := ({ g with l := withM x g.l } : Group).cs a' c') hk85 rfl
      clear p3
      repeat (first | refine qsg ?_)
      refine rw1 (vs := ({ g with l := withM x g.l } : Group).cs a' c') rfl rfl rfl rfl rfl rfl rfl hk84 rfl (.inl hN4) (by simp [Group.cs, Value.oneCell']) ?_
      intro k9 ht9 hk9
      repeat (first | refine rg_nil ?_ | refine eg_then ?_ | refine cg_ret ?_)
      exact eg_returnC rfl rfl rfl (cells_at (vs := ({ g with l := withM x g.l } : Group).cs a' c') hk9 rfl) rfl ⟨a', c', rfl, GrpR.sl hpc (hrow.turnY ht9 hk84 (by decide)) (ht9 k3 hle8 k3b4)⟩
  have hlt : i < g.l.length := by have := of_decide_eq_true h; omega
  obtain ⟨bx, ox, cx, ea, ⟨a0, c0, a1, c1, rfl, hsl, hmok⟩, hcx⟩ := hl3.el i g.l[i] (List.getElem?_eq_getElem hlt)
  have hrep : tMember.rep k3 (g.l[i].cs a0 c0 a1 c1) g.l[i] := ⟨a0, c0, a1, c1, rfl, hsl, hmok⟩
  have e1 := Member.one k3 _ _ hrep
  have s1 := @curW_done x g.l i hlt
  have s2 := @curW_now x g.l i hlt
  have s3 := @curW_not x g.l i hlt
  have s4 := @posW_no x g.l i hlt
  have s5 := @posW_at x g.l i hlt
  obtain ⟨m, hm⟩ : ∃ m, g.l[i] = m := ⟨_, rfl⟩
  rw [hm] at hcx hrep e1 s1 s2 s3 s4 s5
  subst ea
  repeat (first | refine cg_seq ?_ | refine eg_then ?_ | refine cg_skip ?_ | refine cg_block ?_)
  have hab : (!(decide (m.id.data.toList < x.id.data.toList) || decide (m.id = x.id))) = aboveM x m := by
    rw [Bool.eq_iff_iff]
    unfold aboveM
    simp only [Bool.or_eq_true, decide_eq_true_eq, Bool.not_eq_true', Bool.or_eq_false_iff, decide_eq_false_iff_not]
    rw [← cmpStr_lt (a := m.id), ← cmpStr_eq (a := m.id)]
    have h1 := ordL_str.sw m.id x.id
    have h2 := ordL_str.sw x.id m.id
    constructor
    · intro h; omega
    · intro h; omega
  apply meet (k := k8) [(2, .is (.pointer (some ⟨b2, 0, none⟩))), (3, .is (.pointer (some ⟨b3, 0, none⟩))), (4, .is (.pointer (some ⟨b4, 0, none⟩))), (5, .is (.pointer (some ⟨b5, 0, none⟩))), (6, .is (.bool (decide (posW x g.l < i)))), (7, .is (.int .i64 (i : Int))), (29, .is (.bool (!decide (posW x g.l < i) && aboveM x m)))] True
  · intro go
    cases z0 : decide (posW x g.l < i)
    · rw [z0] at go
      have c6 := (Member.parts (hcx.le hle8)).1
      have w0 := w0'.le hle8
      skip
      refine cg_any (by kernel_rfl) rfl ?_
      repeat (first | refine qwp ?_ | refine qwi ?_ | refine qwl ?_ | refine qwf ?_ | (refine wn rfl ?_; refine eg_then ?_))
      rw [hab]
      exact go _ trivial ⟨rfl, rfl, rfl, rfl, rfl, rfl, rfl, trivial⟩
    · rw [z0] at go
      skip
      refine cg_any (by kernel_rfl) rfl ?_
      repeat (first | refine qwp ?_ | refine qwo ?_ | (refine wn rfl ?_; refine eg_then ?_))
      exact go _ trivial ⟨rfl, rfl, rfl, rfl, rfl, rfl, rfl, trivial⟩
  rintro -
  refine cg_join (fun e' k' => ∃ v css l', Le k3 k' ∧ Apart k3 v ∧ Pieces tMember k3 css l' ∧ Row F.w0.heap.size k' 28 6 v l'.length css.flatten ∧ k' b4 = some (.cells (noG.cs none 0).toArray 24 (0, 0)) ∧ k' b5 = some (.cells (gV g v).toArray 24 (0, 0)) ∧ curW x g.l (i + 1) = l' ++ [m] ∧ l'.length ≤ i + 1 ∧ e' = [(2, .is (.pointer (some ⟨b2, 0, none⟩))), (3, .is (.pointer (some ⟨b3, 0, none⟩))), (4, .is (.pointer (some ⟨b4, 0, none⟩))), (5, .is (.pointer (some ⟨b5, 0, none⟩))), (6, .is (.bool (decide (posW x g.l < i + 1)))), (7, .is (.int .i64 (i : Int)))]) ?_ ?_
  · cases z0 : decide (posW x g.l < i)
    rotate_left
    · have z0 := of_decide_eq_true z0
      refine cg_cond_false rfl ?_
      repeat (first | refine cg_skip ?_)
      rw [show decide (posW x g.l < i + 1) = true from decide_eq_true (by omega)]
      exact eg_join [(2, .is (.pointer (some ⟨b2, 0, none⟩))), (3, .is (.pointer (some ⟨b3, 0, none⟩))), (4, .is (.pointer (some ⟨b4, 0, none⟩))), (5, .is (.pointer (some ⟨b5, 0, none⟩))), (6, .is (.bool true)), (7, .is (.int .i64 (i : Int)))] ⟨v, css, _, hle8, hap, hpc, hrow, hk84, hk85, s1 z0, curW_len _ _ _, rfl⟩ ⟨rfl, rfl, rfl, rfl, rfl, rfl, trivial⟩
    have z0 := of_decide_eq_false z0
    cases z1 : aboveM x m
    · refine cg_cond_false rfl ?_
      repeat (first | refine cg_skip ?_)
      rw [show decide (posW x g.l < i + 1) = false from decide_eq_false (s4 z0 z1)]
      exact eg_join [(2, .is (.pointer (some ⟨b2, 0, none⟩))), (3, .is (.pointer (some ⟨b3, 0, none⟩))), (4, .is (.pointer (some ⟨b4, 0, none⟩))), (5, .is (.pointer (some ⟨b5, 0, none⟩))), (6, .is (.bool false)), (7, .is (.int .i64 (i : Int)))] ⟨v, css, _, hle8, hap, hpc, hrow, hk84, hk85, s3 z0 z1, curW_len _ _ _, rfl⟩ ⟨rfl, rfl, rfl, rfl, rfl, rfl, trivial⟩
    rw [show decide (posW x g.l < i + 1) = true from decide_eq_true (by have := s5 z0 z1; omega)]
    have hlw : (curW x g.l i ++ [x]).length ≤ i + 1 := by
      unfold curW; rw [if_neg z0]; simp; omega
    refine cg_cond_true rfl ?_
    repeat (first | refine cg_seq ?_ | refine cg_region ?_ | refine qsf ?_)
    have hv4 : v.ownBlock ≠ some b4 := hrow.owner1 hk84 (by decide)
    have hv5 : v.ownBlock ≠ some b5 := hrow.owner1 hk85 (by decide)
    have hcl := curW_len x g.l i
    have ck := (cells_at (vs := gV g v) hk85 rfl).one (i := 3) rfl
    have w3 := w3'.le hle8
    repeat (first | refine qsl ?_ | refine qsg ?_)
    refine rb rfl rfl rfl rfl (a_slice (cells := x.cs x0 y0 x1 y1) rfl rfl rfl rfl (by kernel_rfl) rfl) ?_; intro b9 k9 hb9 hN9 hle9 hk9
    have c9 := cells_at (vs := x.cs x0 y0 x1 y1) hk9 rfl
    refine rap rfl rfl rfl rfl rfl rfl rfl (hrow.le hle9) c9 rfl ex1 rfl rfl (by unfold maxLen; omega) (by omega) ?_
    intro v10 k10 hrow10 ht10
    obtain ⟨hleA, hapA⟩ := ht10 k3 (hle8.trans hle9) hap
    obtain ⟨hleB, _⟩ := ht10 (delV k8 v) ((delV_le _ _).trans hle9) fun g hg => delV_own hg
    have hk10b := hleB _ _ ((delV_of hv5).trans hk85)
    have hk10c := hleB _ _ ((delV_of hv4).trans hk84)
    clear hleB ht10 ck w3 c9 hk9
    repeat (first | refine qsf ?_)
    refine rw0 rfl rfl rfl rfl rfl rfl hrow10.oneV1 rfl hk10b (by show _ < 4; omega) (.inl hN5) ?_; intro k11 ht11 hk11
    have hle11 : Le k3 k11 := ht11 k3 hleA k3b5
    have hrow11 : Row F.w0.heap.size k11 28 6 v10 (curW x g.l i ++ [x]).length (css ++ [x.cs x0 y0 x1 y1]).flatten := by simpa using hrow10.turnY ht11 hk10b (by decide)
    have hpc11 : Pieces tMember k3 (css ++ [x.cs x0 y0 x1 y1]) (curW x g.l i ++ [x]) := hpc.append (Pieces.one hxr3)
    have hk114 := turn1_get ht11 n45 hk10c
    have hk115 : k11 b5 = some (.cells (gV g v10).toArray 24 (0, 0)) := hk11
    repeat (first | refine cg_region ?_ | refine rg_nil ?_ | refine eg_then ?_ | refine qsp ?_)
    exact eg_join [(2, .is (.pointer (some ⟨b2, 0, none⟩))), (3, .is (.pointer (some ⟨b3, 0, none⟩))), (4, .is (.pointer (some ⟨b4, 0, none⟩))), (5, .is (.pointer (some ⟨b5, 0, none⟩))), (6, .is (.bool true)), (7, .is (.int .i64 (i : Int)))] ⟨v10, _, _, hle11, hapA, hpc11, hrow11, hk114, hk115, s2 z0 z1, hlw, rfl⟩ ⟨rfl, rfl, rfl, rfl, rfl, rfl, trivial⟩
  clear hrow hpc hap hle8 hk84 hk85 p3
  rintro _ k8 ⟨v, css, l', hle8, hap, hpc, hrow, hk84, hk85, hcw, hll, rfl⟩
  have hHd : Le k3 (delV k8 v) := le_delV hle8 hap
  have hv4 : v.ownBlock ≠ some b4 := hrow.owner1 hk84 (by decide)
  have hv5 : v.ownBlock ≠ some b5 := hrow.owner1 hk85 (by decide)
  have dk4 : delV k8 v b4 = _ := (delV_of hv4).trans hk84
  have dk5 : delV k8 v b5 = _ := (delV_of hv5).trans hk85
  have p3 := p3'.le hHd
  have c6 := hcx.le hHd
  have ck := (cells_at (vs := gV g v) dk5 rfl).one (i := 3) rfl
  repeat (first | refine eg_then ?_)
  refine cg_grow 10 8 v hrow (by kernel_rfl) (by kernel_rfl) rfl (by kernel_rfl) rfl ?_
  dsimp only [List.take]
  repeat (first | refine qcp ?_ | refine qci ?_ | refine qcl ?_ | refine qcg ?_ | refine qcf ?_)
  refine wc_v rfl (loc_alloc rfl (a_slice (cells := m.cs a0 c0 a1 c1) rfl rfl rfl rfl (by kernel_rfl) rfl)) rfl ?_
  refine wc_e 0 rfl (eff_grow2 (j := 1) (news := m.cs a0 c0 a1 c1) rfl rfl rfl rfl rfl (fun k1 u _ ⟨b, hu, hkb, _⟩ => ⟨b, 0, 1, hu, cells_at hkb rfl⟩) rfl e1 (by kernel_rfl) rfl (by unfold maxLen; omega) (by omega)) ?_
  repeat (first | refine qcf ?_)
  refine wc_nil ?_
  intro k11 vs hle11 hvs
  obtain ⟨hrow11, hap11⟩ : Row F.w0.heap.size k11 28 6 (vs 44) (l'.length + 1) (css.flatten ++ m.cs a0 c0 a1 c1) ∧ Apart (delV k8 v) (vs 44) := hvs 44 _ rfl
  clear hvs
  dsimp only [List.drop, set, argEnv, nameE, nameP]
  generalize vs 44 = v' at hrow11 hap11 ⊢
  have hk11 := hle11 _ _ dk5
  have hk114 := hle11 _ _ dk4
  refine rw0 rfl rfl rfl rfl rfl rfl hrow11.oneV1 rfl hk11 (by show _ < 4; omega) (.inl hN5) ?_; intro k12 ht12 hk12
  repeat (first | refine cg_region ?_ | refine rg_nil ?_ | refine eg_then ?_ | refine qsp ?_ | refine qsa ?_ | refine eg_in_normal ?_)
  refine eg_again (i + 1) _ ⟨v', css ++ [m.cs a0 c0 a1 c1], ht12 _ (hHd.trans hle11) k3b5, ?_, ?_, ?_, turn1_get ht12 n45 hk114, hk12, hlt, rfl⟩ (by omega) ⟨rfl, rfl, rfl, rfl, rfl, rfl, trivial⟩
  · intro gg hgg
    cases hc : k3 gg with
    | none => rfl
    | some ob => have := hap11 gg hgg; rw [hHd _ _ hc] at this; cases this
  · rw [hcw]; exact hpc.append (Pieces.one hrep)
  · rw [hcw]; simpa using hrow11.turnY ht12 hk11 (by decide)
end Go.Wm

/-
  The chapter's example. Conditions: none.
-/
import Derived.Test.YtjonlpdnhbnmmaaA15
import Derived.Test.YtjonlpdnhbnmmaaA1
set_option linter.all false
namespace Go.Wm
open Go.RowKit Go.Proofs
attribute [local irreducible] RG CG EG WA Loc Det Alc CT Exit.then Exit.inBlock Code.wp bodyPost

theorem sl_mono {α : Type} {T : Ty α} {l : List α} {n : Nat} : ∀ k k' v, Le k k' → (∃ a' c', v = Value.slice a' n c' ∧ Sl T k a' c' l) → ∃ a' c', v = Value.slice a' n c' ∧ Sl T k' a' c' l := fun k k' v hle ⟨a, c, h1, h2⟩ => ⟨a, c, h1, h2.le hle⟩
instance (n : Int) : Decidable (I64 n) := by unfold I64; infer_instance
theorem okI (n : Int) (h1 : -1000 ≤ n) (h2 : n ≤ 1000) : I64 n := ⟨by omega, by omega⟩

def tpA : Tp := ⟨⟨#[97]⟩, 0, 0⟩
def tpB : Tp := ⟨⟨#[98]⟩, 0, 0⟩
def tpC : Tp := ⟨⟨#[99]⟩, 0, 0⟩
def gnA : Gone := ⟨1, 0, 2, 5⟩
def gnB : Gone := ⟨1, 0, 1, 3⟩
def vwA : View := ⟨tpA, ⟨[], [], [gnA]⟩, 6⟩
def vwB (h : Int) : View := ⟨tpB, ⟨[], [], [gnB]⟩, h⟩
def lvV (h : Int) : List View := [vwA, vwB h]
def lvR : List View := [vwB 4, vwA]
def mkC : List Mark := [⟨tpA, 2⟩, ⟨tpB, 1⟩]
def mkF : List Mark := [⟨tpA, 6⟩, ⟨tpB, 4⟩]
def mkH : List Mark := [⟨tpA, 6⟩, ⟨tpB, 3⟩]
theorem okA : tpA.ok := ⟨by decide, by decide, by decide⟩
theorem okB' : tpB.ok := ⟨by decide, by decide, by decide⟩
theorem okGA : gnA.ok := ⟨by decide, by decide, by decide, by decide⟩
theorem okGB : gnB.ok := ⟨by decide, by decide, by decide, by decide⟩
theorem smallV (h : Int) : SmallV (lvV h) := fun v hv => by
  simp only [lvV, List.mem_cons, List.not_mem_nil, or_false] at hv
  rcases hv with rfl | rfl <;> simp [vwA, vwB]
theorem smallR : SmallV lvR := fun v hv => by
  simp only [lvR, List.mem_cons, List.not_mem_nil, or_false] at hv
  rcases hv with rfl | rfl <;> simp [vwA, vwB]
theorem cut_one {l : List View} {m : List Int} (h : IsCut l (stableL l) m) (hw : lowP l (lowP l (stableL l)) = lowP l (stableL l)) : m = lowP l (stableL l) := by
  have hs : (stableL l).length = l.length := by simp [stableL]
  have h1 := low_mono hs h.whole h.safe
  exact h1.antisymm (h.top _ ((whole_iff (by rw [lowP_len hs])).1 hw) (low_le hs))
theorem x1 : decide (MayV (lvV 3)) = true := by decide +kernel
theorem x2 : decide (MayV (lvV 4)) = true := by decide +kernel
theorem x3 : decide (MayV lvR) = false := by decide +kernel
theorem x4 : lowP (lvV 3) (lowP (lvV 3) (stableL (lvV 3))) = lowP (lvV 3) (stableL (lvV 3)) := by decide +kernel
theorem x5 : lowP (lvV 4) (lowP (lvV 4) (stableL (lvV 4))) = lowP (lvV 4) (stableL (lvV 4)) := by decide +kernel
theorem x6 : marksOf (lvV 3) (lowP (lvV 3) (stableL (lvV 3))) = mkC := by decide +kernel
theorem x7 : marksOf (lvV 4) (lowP (lvV 4) (stableL (lvV 4))) = mkF := by decide +kernel
theorem x8 : leastM mkH mkC = mkC := by decide +kernel
theorem x9 : belowM mkC mkH = true := by decide +kernel
theorem x10 : belowM mkH mkC = false := by decide +kernel
theorem x11 : wholeB (lvV 4) mkC = true := by decide +kernel
theorem x12 : wholeB (lvV 4) mkF = true := by decide +kernel
theorem x13 : wholeB (lvV 4) mkH = false := by decide +kernel
/-- What the cut of an example tells. -/
theorem cut_tells {l : List View} {k : PH} {v : Value} {ms : List Mark} {n : Nat} (h : CutR l k v) (hm : decide (MayV l) = true) (hw : lowP l (lowP l (stableL l)) = lowP l (stableL l)) (he : marksOf l (lowP l (stableL l)) = ms) (hn : ms.length = n) : ∃ a c, v = .tuple #[.slice a n c, .int .i64 0] ∧ Sl tMark k a c ms := by
  subst hn
  unfold CutR at h
  rw [if_pos (of_decide_eq_true hm)] at h
  obtain ⟨m, a, c, h1, _, h3, h4⟩ := h
  rw [cut_one h1 hw, he] at h3 h4
  exact ⟨a, c, h3, h4⟩

theorem views_rep {k : PH} {b5 b6 b7 : Nat} {et et5 et6 : TypeId} {fr fr5 fr6 : Nat × Nat} {h : Int} (hh : I64 h) (h7 : k b7 = some (.cells (vwA.cs none 0 none 0 (some ⟨b5, 0, none⟩) 1 ++ (vwB h).cs none 0 none 0 (some ⟨b6, 0, none⟩) 1).toArray et fr))
    (h5 : k b5 = some (.cells ([gnA].flatMap Gone.vs).toArray et5 fr5)) (h6 : k b6 = some (.cells ([gnB].flatMap Gone.vs).toArray et6 fr6)) : Sl tView k (some ⟨b7, 0, none⟩) 2 (lvV h) := by
  have s5 : Sl tGone k (some ⟨b5, 0, none⟩) 1 [gnA] := sl_flat (xs := [gnA]) h5 rfl (fun x hx => ⟨rfl, by simp at hx; subst hx; exact okGA⟩) (by decide)
  have s6 : Sl tGone k (some ⟨b6, 0, none⟩) 1 [gnB] := sl_flat (xs := [gnB]) h6 rfl (fun x hx => ⟨rfl, by simp at hx; subst hx; exact okGB⟩) (by decide)
  refine sl_rows (xs := lvV h) (css := [vwA.cs none 0 none 0 (some ⟨b5, 0, none⟩) 1, (vwB h).cs none 0 none 0 (some ⟨b6, 0, none⟩) 1]) h7 rfl rfl (fun i cs x h1 h2 => ?_) (by simp [lvV, maxLen])
  match i, h1, h2 with
  | 0, h1, h2 =>
    simp [lvV] at h1 h2
    rw [← h1, ← h2]
    exact ⟨_, _, _, _, _, _, rfl, ⟨sl_none _ _, sl_none _ _, s5⟩, okA, ⟨trivial, trivial, trivial⟩, okI 6 (by decide) (by decide)⟩
  | 1, h1, h2 =>
    simp [lvV] at h1 h2
    rw [← h1, ← h2]
    exact ⟨_, _, _, _, _, _, rfl, ⟨sl_none _ _, sl_none _ _, s6⟩, okB', ⟨trivial, trivial, trivial⟩, hh⟩
theorem views_repR {k : PH} {b5 b6 b7 : Nat} {et et5 et6 : TypeId} {fr fr5 fr6 : Nat × Nat} (h7 : k b7 = some (.cells ((vwB 4).cs none 0 none 0 (some ⟨b6, 0, none⟩) 1 ++ vwA.cs none 0 none 0 (some ⟨b5, 0, none⟩) 1).toArray et fr))
    (h5 : k b5 = some (.cells ([gnA].flatMap Gone.vs).toArray et5 fr5)) (h6 : k b6 = some (.cells ([gnB].flatMap Gone.vs).toArray et6 fr6)) : Sl tView k (some ⟨b7, 0, none⟩) 2 lvR := by
  have s5 : Sl tGone k (some ⟨b5, 0, none⟩) 1 [gnA] := sl_flat (xs := [gnA]) h5 rfl (fun x hx => ⟨rfl, by simp at hx; subst hx; exact okGA⟩) (by decide)
  have s6 : Sl tGone k (some ⟨b6, 0, none⟩) 1 [gnB] := sl_flat (xs := [gnB]) h6 rfl (fun x hx => ⟨rfl, by simp at hx; subst hx; exact okGB⟩) (by decide)
  refine sl_rows (xs := lvR) (css := [(vwB 4).cs none 0 none 0 (some ⟨b6, 0, none⟩) 1, vwA.cs none 0 none 0 (some ⟨b5, 0, none⟩) 1]) h7 rfl rfl (fun i cs x h1 h2 => ?_) (by simp [lvR, maxLen])
  match i, h1, h2 with
  | 0, h1, h2 =>
    simp [lvR] at h1 h2
    rw [← h1, ← h2]
    exact ⟨_, _, _, _, _, _, rfl, ⟨sl_none _ _, sl_none _ _, s6⟩, okB', ⟨trivial, trivial, trivial⟩, okI 4 (by decide) (by decide)⟩
  | 1, h1, h2 =>
    simp [lvR] at h1 h2
    rw [← h1, ← h2]
    exact ⟨_, _, _, _, _, _, rfl, ⟨sl_none _ _, sl_none _ _, s5⟩, okA, ⟨trivial, trivial, trivial⟩, okI 6 (by decide) (by decide)⟩
/-- A mark lies in no block of views. -/
theorem mark_apart {k : PH} {b5 b6 b7 bc off : Nat} {et : TypeId} {fr : Nat × Nat} {h : Int} {m : Mark} (h7 : k b7 = some (.cells (vwA.cs none 0 none 0 (some ⟨b5, 0, none⟩) 1 ++ (vwB h).cs none 0 none 0 (some ⟨b6, 0, none⟩) 1).toArray et fr)) (hc : Cells k bc off m.vs) : bc ≠ b7 := by
  rintro rfl
  obtain ⟨c', et', fr', g1, g2⟩ := hc
  rw [h7] at g1
  cases g1
  have e0 := g2 0 _ rfl
  have e3 := g2 3 _ rfl
  have hoff : off < 14 := by
    obtain ⟨hlt, _⟩ := Array.getElem?_eq_some_iff.1 e3
    simp [View.cs] at hlt
    omega
  have key : ∀ i, i < 14 → (vwA.cs none 0 none 0 (some ⟨b5, 0, none⟩) 1 ++ (vwB h).cs none 0 none 0 (some ⟨b6, 0, none⟩) 1).toArray[i]? = some (.string m.tp.topic) → (vwA.cs none 0 none 0 (some ⟨b5, 0, none⟩) 1 ++ (vwB h).cs none 0 none 0 (some ⟨b6, 0, none⟩) 1).toArray[i + 3]? = some (.int .i64 m.off) → False := by
    intro i hi
    match i, hi with
    | 0, _ => intro _ h; simp [View.cs] at h
    | 1, _ => intro h _; simp [View.cs] at h
    | 2, _ => intro h _; simp [View.cs] at h
    | 3, _ => intro h _; simp [View.cs] at h
    | 4, _ => intro h _; simp [View.cs] at h
    | 5, _ => intro h _; simp [View.cs] at h
    | 6, _ => intro h _; simp [View.cs] at h
    | 7, _ => intro _ h; simp [View.cs] at h
    | 8, _ => intro h _; simp [View.cs] at h
    | 9, _ => intro h _; simp [View.cs] at h
    | 10, _ => intro h _; simp [View.cs] at h
    | 11, _ => intro h _; simp [View.cs] at h
    | 12, _ => intro h _; simp [View.cs] at h
    | 13, _ => intro h _; simp [View.cs] at h
  exact key off hoff e0 e3
theorem cut_not {l : List View} {k : PH} {a : Option Addr} {c n : Nat} (hl : Sl tView k a c l) (hb : l.length ≤ 1000000) (hsm : SmallV l) (hm : decide (MayV l) = false) (hn : l.length = n) : CT Try.prog 21 #[.slice a n c] k (fun _ v => v = .tuple #[.slice none 0 0, .int .i64 1]) := by
  subst hn
  refine (cut_ct hl hb hsm).mono (Le.refl _) fun k v h => ?_
  unfold CutR at h
  rwa [if_neg (of_decide_eq_false hm)] at h

set_option maxHeartbeats 4000000 in
theorem live_ct {k : PH} : CT Try.prog 18 #[] k (fun _ v => v = .bool true) := by
  refine ct_of_body (l := []) Try.func18 rfl Try.ntmps18 (by simp) (fun _ _ _ _ h => h) fun F hF0 hFm => ?_
  repeat (first | refine cg_seq ?_ | refine cg_region ?_ | refine rg_nil ?_ | refine eg_then ?_ | refine qsp ?_ | refine qsn ?_ | refine qsa ?_ | refine qss ?_ | refine qsi ?_ | refine qsz ?_ | refine qsl ?_ | refine qsg ?_ | refine qsf ?_ | refine qsd ?_ | refine qsE ?_ | refine qsX ?_ | refine qse ?_ | refine qsx ?_ | refine qso ?_ | refine cg_cond_true rfl ?_ | refine cg_cond_false rfl ?_ | refine cg_skip ?_ | refine cg_block ?_ | refine eg_in_normal ?_ | refine cg_ret ?_ | refine eg_then_ret ?_ | refine eg_in_ret ?_ | refine cg_exit ?_ | refine eg_then_exit ?_ | refine eg_in_exit ?_ | refine eg_in_other rfl ?_)
  refine rs rfl rfl (loc_det rfl (d_lit (cells := tpA.vs) rfl rfl rfl)) ?_
  refine rb rfl rfl rfl rfl (a_alloc rfl) ?_; intro b1 k1 hb1 hN1 hle1 hk1
  refine rw1 rfl rfl rfl rfl rfl rfl rfl hk1 rfl (.inl hN1) ?_ ?_; (simp [Tp.vs, Mark.vs, OpenT.vs, Gone.vs, Tx.cs, View.cs, Rec.vs, Batch.cs, Who.vs, Pl.vs, Value.oneCell']); intro k2 ht2 hk2
  repeat (first | refine cg_seq ?_ | refine cg_region ?_ | refine rg_nil ?_ | refine eg_then ?_ | refine qsp ?_ | refine qsn ?_ | refine qsa ?_ | refine qss ?_ | refine qsi ?_ | refine qsz ?_ | refine qsl ?_ | refine qsg ?_ | refine qsf ?_ | refine qsd ?_ | refine qsE ?_ | refine qsX ?_ | refine qse ?_ | refine qsx ?_ | refine qso ?_ | refine cg_cond_true rfl ?_ | refine cg_cond_false rfl ?_ | refine cg_skip ?_ | refine cg_block ?_ | refine eg_in_normal ?_ | refine cg_ret ?_ | refine eg_then_ret ?_ | refine eg_in_ret ?_ | refine cg_exit ?_ | refine eg_then_exit ?_ | refine eg_in_exit ?_ | refine eg_in_other rfl ?_)
  refine rs rfl rfl (loc_det rfl (d_lit (cells := tpB.vs) rfl rfl rfl)) ?_
  refine rb rfl rfl rfl rfl (a_alloc rfl) ?_; intro b3 k3 hb3 hN3 hle3 hk3
  refine rw1 rfl rfl rfl rfl rfl rfl rfl hk3 rfl (.inl hN3) ?_ ?_; (simp [Tp.vs, Mark.vs, OpenT.vs, Gone.vs, Tx.cs, View.cs, Rec.vs, Batch.cs, Who.vs, Pl.vs, Value.oneCell']); intro k4 ht4 hk4
  have hle4 := ht4 k2 hle3 hb3
  have cA := cells_at (vs := tpA.vs) (hle4 _ _ hk2) rfl
  have cB := cells_at (vs := tpB.vs) hk4 rfl
  repeat (first | refine cg_seq ?_ | refine cg_region ?_ | refine rg_nil ?_ | refine eg_then ?_ | refine qsp ?_ | refine qsn ?_ | refine qsa ?_ | refine qss ?_ | refine qsi ?_ | refine qsz ?_ | refine qsl ?_ | refine qsg ?_ | refine qsf ?_ | refine qsd ?_ | refine qsE ?_ | refine qsX ?_ | refine qse ?_ | refine qsx ?_ | refine qso ?_ | refine cg_cond_true rfl ?_ | refine cg_cond_false rfl ?_ | refine cg_skip ?_ | refine cg_block ?_ | refine eg_in_normal ?_ | refine cg_ret ?_ | refine eg_then_ret ?_ | refine eg_in_ret ?_ | refine cg_exit ?_ | refine eg_then_exit ?_ | refine eg_in_exit ?_ | refine eg_in_other rfl ?_)
  refine rs rfl rfl (loc_det rfl (d_lit (cells := gnA.vs) rfl rfl rfl)) ?_
  refine rb rfl rfl rfl rfl (a_slice (cells := [gnA].flatMap Gone.vs) rfl rfl rfl rfl (by kernel_rfl) rfl) ?_; intro b5 k5 hb5 hN5 hle5 hk5
  refine rs rfl rfl (loc_det rfl (d_lit (cells := (vwA.tx).cs none 0 none 0 (some ⟨b5, 0, none⟩) 1) rfl rfl rfl)) ?_
  refine rs rfl rfl (loc_det rfl (d_lit (cells := vwA.cs none 0 none 0 (some ⟨b5, 0, none⟩) 1) rfl rfl rfl)) ?_
  have cB5 := cB.le hle5
  repeat (first | refine cg_seq ?_ | refine cg_region ?_ | refine rg_nil ?_ | refine eg_then ?_ | refine qsp ?_ | refine qsn ?_ | refine qsa ?_ | refine qss ?_ | refine qsi ?_ | refine qsz ?_ | refine qsl ?_ | refine qsg ?_ | refine qsf ?_ | refine qsd ?_ | refine qsE ?_ | refine qsX ?_ | refine qse ?_ | refine qsx ?_ | refine qso ?_ | refine cg_cond_true rfl ?_ | refine cg_cond_false rfl ?_ | refine cg_skip ?_ | refine cg_block ?_ | refine eg_in_normal ?_ | refine cg_ret ?_ | refine eg_then_ret ?_ | refine eg_in_ret ?_ | refine cg_exit ?_ | refine eg_then_exit ?_ | refine eg_in_exit ?_ | refine eg_in_other rfl ?_)
  refine rs rfl rfl (loc_det rfl (d_lit (cells := gnB.vs) rfl rfl rfl)) ?_
  refine rb rfl rfl rfl rfl (a_slice (cells := [gnB].flatMap Gone.vs) rfl rfl rfl rfl (by kernel_rfl) rfl) ?_; intro b6 k6 hb6 hN6 hle6 hk6
  refine rs rfl rfl (loc_det rfl (d_lit (cells := ((vwB 3).tx).cs none 0 none 0 (some ⟨b6, 0, none⟩) 1) rfl rfl rfl)) ?_
  refine rs rfl rfl (loc_det rfl (d_lit (cells := (vwB 3).cs none 0 none 0 (some ⟨b6, 0, none⟩) 1) rfl rfl rfl)) ?_
  refine rb rfl rfl rfl rfl (a_slice (cells := vwA.cs none 0 none 0 (some ⟨b5, 0, none⟩) 1 ++ (vwB 3).cs none 0 none 0 (some ⟨b6, 0, none⟩) 1) rfl rfl rfl rfl (by kernel_rfl) rfl) ?_; intro b7 k7 hb7 hN7 hle7 hk7
  have hl := views_rep (by decide) hk7 (hle7 _ _ (hle6 _ _ hk5)) (hle7 _ _ hk6)
  have cA := cA.le (hle5.trans (hle6.trans hle7))
  have cB := cB.le (hle5.trans (hle6.trans hle7))
  repeat (first | refine cg_seq ?_ | refine cg_region ?_ | refine rg_nil ?_ | refine eg_then ?_ | refine qsp ?_ | refine qsn ?_ | refine qsa ?_ | refine qss ?_ | refine qsi ?_ | refine qsz ?_ | refine qsl ?_ | refine qsg ?_ | refine qsf ?_ | refine qsd ?_ | refine qsE ?_ | refine qsX ?_ | refine qse ?_ | refine qsx ?_ | refine qso ?_ | refine cg_cond_true rfl ?_ | refine cg_cond_false rfl ?_ | refine cg_skip ?_ | refine cg_block ?_ | refine eg_in_normal ?_ | refine cg_ret ?_ | refine eg_then_ret ?_ | refine eg_in_ret ?_ | refine cg_exit ?_ | refine eg_then_exit ?_ | refine eg_in_exit ?_ | refine eg_in_other rfl ?_)
  refine rv rfl rfl rfl (loc_call rfl rfl rfl rfl CutR.mono (cut_ct hl (by decide) (smallV 3))) ?_
  rintro k8 hle8 _ hcr
  obtain ⟨ac, cc, rfl, hc⟩ := cut_tells (n := 2) hcr x1 x4 x6 rfl
  have cA := cA.le hle8
  have cB := cB.le hle8
  have qa := at_ct (tp := tpB) hc
  rw [show markP mkC tpB = some 1 by decide +kernel] at qa
  repeat (first | refine cg_seq ?_ | refine cg_region ?_ | refine rg_nil ?_ | refine eg_then ?_ | refine qsp ?_ | refine qsn ?_ | refine qsa ?_ | refine qss ?_ | refine qsi ?_ | refine qsz ?_ | refine qsl ?_ | refine qsg ?_ | refine qsf ?_ | refine qsd ?_ | refine qsE ?_ | refine qsX ?_ | refine qse ?_ | refine qsx ?_ | refine qso ?_ | refine cg_cond_true rfl ?_ | refine cg_cond_false rfl ?_ | refine cg_skip ?_ | refine cg_block ?_ | refine eg_in_normal ?_ | refine cg_ret ?_ | refine eg_then_ret ?_ | refine eg_in_ret ?_ | refine cg_exit ?_ | refine eg_then_exit ?_ | refine eg_in_exit ?_ | refine eg_in_other rfl ?_)
  refine rs rfl rfl (loc_call_is rfl rfl rfl rfl (qa)) ?_
  repeat (first | refine cg_seq ?_ | refine cg_region ?_ | refine rg_nil ?_ | refine eg_then ?_ | refine qsp ?_ | refine qsn ?_ | refine qsa ?_ | refine qss ?_ | refine qsi ?_ | refine qsz ?_ | refine qsl ?_ | refine qsg ?_ | refine qsf ?_ | refine qsd ?_ | refine qsE ?_ | refine qsX ?_ | refine qse ?_ | refine qsx ?_ | refine qso ?_ | refine cg_cond_true rfl ?_ | refine cg_cond_false rfl ?_ | refine cg_skip ?_ | refine cg_block ?_ | refine eg_in_normal ?_ | refine cg_ret ?_ | refine eg_then_ret ?_ | refine eg_in_ret ?_ | refine cg_exit ?_ | refine eg_then_exit ?_ | refine eg_in_exit ?_ | refine eg_in_other rfl ?_)
  refine rs rfl rfl (loc_det rfl (d_lit (cells := tpC.vs) rfl rfl rfl)) ?_
  have qb := at_ct (tp := tpC) hc
  rw [show markP mkC tpC = none by decide +kernel] at qb
  refine rs rfl rfl (loc_call_is rfl rfl rfl rfl (qb)) ?_
  repeat (first | refine cg_seq ?_ | refine cg_region ?_ | refine rg_nil ?_ | refine eg_then ?_ | refine qsp ?_ | refine qsn ?_ | refine qsa ?_ | refine qss ?_ | refine qsi ?_ | refine qsz ?_ | refine qsl ?_ | refine qsg ?_ | refine qsf ?_ | refine qsd ?_ | refine qsE ?_ | refine qsX ?_ | refine qse ?_ | refine qsx ?_ | refine qso ?_ | refine cg_cond_true rfl ?_ | refine cg_cond_false rfl ?_ | refine cg_skip ?_ | refine cg_block ?_ | refine eg_in_normal ?_ | refine cg_ret ?_ | refine eg_then_ret ?_ | refine eg_in_ret ?_ | refine cg_exit ?_ | refine eg_then_exit ?_ | refine eg_in_exit ?_ | refine eg_in_other rfl ?_)
  refine rs rfl rfl (loc_det rfl (d_lit (cells := (⟨tpA, 6⟩ : Mark).vs) rfl rfl rfl)) ?_
  repeat (first | refine cg_seq ?_ | refine cg_region ?_ | refine rg_nil ?_ | refine eg_then ?_ | refine qsp ?_ | refine qsn ?_ | refine qsa ?_ | refine qss ?_ | refine qsi ?_ | refine qsz ?_ | refine qsl ?_ | refine qsg ?_ | refine qsf ?_ | refine qsd ?_ | refine qsE ?_ | refine qsX ?_ | refine qse ?_ | refine qsx ?_ | refine qso ?_ | refine cg_cond_true rfl ?_ | refine cg_cond_false rfl ?_ | refine cg_skip ?_ | refine cg_block ?_ | refine eg_in_normal ?_ | refine cg_ret ?_ | refine eg_then_ret ?_ | refine eg_in_ret ?_ | refine cg_exit ?_ | refine eg_then_exit ?_ | refine eg_in_exit ?_ | refine eg_in_other rfl ?_)
  refine rs rfl rfl (loc_det rfl (d_lit (cells := (⟨tpB, 3⟩ : Mark).vs) rfl rfl rfl)) ?_
  refine rb rfl rfl rfl rfl (a_slice (cells := mkH.flatMap Mark.vs) rfl rfl rfl rfl (by kernel_rfl) rfl) ?_; intro b9 k9 hb9 hN9 hle9 hk9
  have hh : Sl tMark k9 (some ⟨b9, 0, none⟩) 2 mkH := sl_flat (xs := mkH) hk9 rfl (fun x hx => ⟨rfl, by
    simp only [mkH, List.mem_cons, List.not_mem_nil, or_false] at hx
    rcases hx with rfl | rfl
    · exact ⟨okA, by decide⟩
    · exact ⟨okB', by decide⟩⟩) (by decide)
  have hc := hc.le hle9
  repeat (first | refine cg_seq ?_ | refine cg_region ?_ | refine rg_nil ?_ | refine eg_then ?_ | refine qsp ?_ | refine qsn ?_ | refine qsa ?_ | refine qss ?_ | refine qsi ?_ | refine qsz ?_ | refine qsl ?_ | refine qsg ?_ | refine qsf ?_ | refine qsd ?_ | refine qsE ?_ | refine qsX ?_ | refine qse ?_ | refine qsx ?_ | refine qso ?_ | refine cg_cond_true rfl ?_ | refine cg_cond_false rfl ?_ | refine cg_skip ?_ | refine cg_block ?_ | refine eg_in_normal ?_ | refine cg_ret ?_ | refine eg_then_ret ?_ | refine eg_in_ret ?_ | refine cg_exit ?_ | refine eg_then_exit ?_ | refine eg_in_exit ?_ | refine eg_in_other rfl ?_)
  have ql := least_ct hh hc (by decide)
  rw [x8] at ql
  refine rv rfl rfl rfl (loc_call rfl rfl rfl rfl (sl_mono (n := 2)) ql) ?_
  rintro k10 hle10 _ ⟨ad, cd, rfl, hd⟩
  have hc := hc.le hle10
  have hh := hh.le hle10
  have hle810 := hle8.trans (hle9.trans hle10)
  have hk710 := hle810 _ _ hk7
  have cA := cA.le (hle9.trans hle10)
  have cB := cB.le (hle9.trans hle10)
  repeat (first | refine cg_seq ?_ | refine cg_region ?_ | refine rg_nil ?_ | refine eg_then ?_ | refine qsp ?_ | refine qsn ?_ | refine qsa ?_ | refine qss ?_ | refine qsi ?_ | refine qsz ?_ | refine qsl ?_ | refine qsg ?_ | refine qsf ?_ | refine qsd ?_ | refine qsE ?_ | refine qsX ?_ | refine qse ?_ | refine qsx ?_ | refine qso ?_ | refine cg_cond_true rfl ?_ | refine cg_cond_false rfl ?_ | refine cg_skip ?_ | refine cg_block ?_ | refine eg_in_normal ?_ | refine cg_ret ?_ | refine eg_then_ret ?_ | refine eg_in_ret ?_ | refine cg_exit ?_ | refine eg_then_exit ?_ | refine eg_in_exit ?_ | refine eg_in_other rfl ?_)
  refine rs rfl rfl (loc_det rfl (d_idx (i := 1) rfl rfl rfl (by decide))) ?_
  repeat (first | refine cg_seq ?_ | refine cg_region ?_ | refine rg_nil ?_ | refine eg_then ?_ | refine qsp ?_ | refine qsn ?_ | refine qsa ?_ | refine qss ?_ | refine qsi ?_ | refine qsz ?_ | refine qsl ?_ | refine qsg ?_ | refine qsf ?_ | refine qsd ?_ | refine qsE ?_ | refine qsX ?_ | refine qse ?_ | refine qsx ?_ | refine qso ?_ | refine cg_cond_true rfl ?_ | refine cg_cond_false rfl ?_ | refine cg_skip ?_ | refine cg_block ?_ | refine eg_in_normal ?_ | refine cg_ret ?_ | refine eg_then_ret ?_ | refine eg_in_ret ?_ | refine cg_exit ?_ | refine eg_then_exit ?_ | refine eg_in_exit ?_ | refine eg_in_other rfl ?_)
  refine rw0 rfl rfl rfl rfl rfl rfl rfl rfl hk710 (by simp [View.cs]) (.inl hN7) ?_
  intro k11 ht11 hk11
  obtain ⟨bc, oc, _, rfl, ⟨rfl, _⟩, hc0⟩ := hc.el 0 ⟨tpA, 2⟩ rfl
  obtain ⟨bd, od, _, rfl, ⟨rfl, _⟩, hd0⟩ := hd.el 0 ⟨tpA, 2⟩ rfl
  have nc := mark_apart hk710 hc0
  have nd := mark_apart hk710 hd0
  have hc := hc.turn1 ht11 (fun ad e => by cases e; exact nc) (fun _ _ h => h)
  have hd := hd.turn1 ht11 (fun ad e => by cases e; exact nd) (fun _ _ h => h)
  have hle37 := hle5.trans (hle6.trans hle7)
  have n9 : b9 ≠ b7 := some_ne (hle8 _ _ hk7) hb9
  have n5 : b5 ≠ b7 := (some_ne (hle6 _ _ hk5) hb7).symm
  have n6 : b6 ≠ b7 := (some_ne hk6 hb7).symm
  have n3 : b3 ≠ b7 := (some_ne (hle6 _ _ (hle5 _ _ hk4)) hb7).symm
  have n1 : b1 ≠ b7 := (some_ne (hle6 _ _ (hle5 _ _ (hle4 _ _ hk2))) hb7).symm
  have hh := hh.turn1 ht11 (fun ad e => by cases e; exact n9) (fun _ _ h => h)
  have cA := cA.turn1 ht11 n1
  have cB := cB.turn1 ht11 n3
  have h5 := turn1_get ht11 n5 (hle810 _ _ (hle7 _ _ (hle6 _ _ hk5)))
  have h6 := turn1_get ht11 n6 (hle810 _ _ (hle7 _ _ hk6))
  have hl := views_rep (h := 4) (by decide) hk11 h5 h6
  repeat (first | refine cg_seq ?_ | refine cg_region ?_ | refine rg_nil ?_ | refine eg_then ?_ | refine qsp ?_ | refine qsn ?_ | refine qsa ?_ | refine qss ?_ | refine qsi ?_ | refine qsz ?_ | refine qsl ?_ | refine qsg ?_ | refine qsf ?_ | refine qsd ?_ | refine qsE ?_ | refine qsX ?_ | refine qse ?_ | refine qsx ?_ | refine qso ?_ | refine cg_cond_true rfl ?_ | refine cg_cond_false rfl ?_ | refine cg_skip ?_ | refine cg_block ?_ | refine eg_in_normal ?_ | refine cg_ret ?_ | refine eg_then_ret ?_ | refine eg_in_ret ?_ | refine cg_exit ?_ | refine eg_then_exit ?_ | refine eg_in_exit ?_ | refine eg_in_other rfl ?_)
  refine rv rfl rfl rfl (loc_call rfl rfl rfl rfl CutR.mono (cut_ct hl (by decide) (smallV 4))) ?_
  rintro k12 hle12 _ hcr
  obtain ⟨af, cf, rfl, hf⟩ := cut_tells (n := 2) hcr x2 x5 x7 rfl
  have cA := cA.le hle12
  have cB := cB.le hle12
  have hc := hc.le hle12
  have hd := hd.le hle12
  have hh := hh.le hle12
  have hl := hl.le hle12
  have h5 := hle12 _ _ h5
  have h6 := hle12 _ _ h6
  have hk12 := hle12 _ _ hk11
  have c7 := cells_at (vs := vwA.cs none 0 none 0 (some ⟨b5, 0, none⟩) 1 ++ (vwB 4).cs none 0 none 0 (some ⟨b6, 0, none⟩) 1) hk12 rfl
  have c7A : Cells k12 b7 (0 + 0 * 7) (vwA.cs none 0 none 0 (some ⟨b5, 0, none⟩) 1) := c7.win (n := 7) 0 rfl
  have c7B : Cells k12 b7 (0 + 1 * 7) ((vwB 4).cs none 0 none 0 (some ⟨b6, 0, none⟩) 1) := c7.win (n := 7) 7 rfl
  obtain ⟨_, _, _, e1, ⟨rfl, _⟩, hc0⟩ := hc.el 0 ⟨tpA, 2⟩ rfl
  cases e1
  obtain ⟨_, _, _, e1, ⟨rfl, _⟩, hc1⟩ := hc.el 1 ⟨tpB, 1⟩ rfl
  cases e1
  obtain ⟨bf, of, _, rfl, ⟨rfl, _⟩, hf0⟩ := hf.el 0 ⟨tpA, 6⟩ rfl
  obtain ⟨_, _, _, e1, ⟨rfl, _⟩, hf1⟩ := hf.el 1 ⟨tpB, 4⟩ rfl
  cases e1
  repeat (first | refine cg_seq ?_ | refine cg_region ?_ | refine rg_nil ?_ | refine eg_then ?_ | refine qsp ?_ | refine qsn ?_ | refine qsa ?_ | refine qss ?_ | refine qsi ?_ | refine qsz ?_ | refine qsl ?_ | refine qsg ?_ | refine qsf ?_ | refine qsd ?_ | refine qsE ?_ | refine qsX ?_ | refine qse ?_ | refine qsx ?_ | refine qso ?_ | refine cg_cond_true rfl ?_ | refine cg_cond_false rfl ?_ | refine cg_skip ?_ | refine cg_block ?_ | refine eg_in_normal ?_ | refine cg_ret ?_ | refine eg_then_ret ?_ | refine eg_in_ret ?_ | refine cg_exit ?_ | refine eg_then_exit ?_ | refine eg_in_exit ?_ | refine eg_in_other rfl ?_)
  refine cg_anyn (by kernel_rfl) rfl ?_
  repeat (first | refine qwp ?_ | refine qwn ?_ | refine qwa ?_ | refine qws ?_ | refine qwi ?_ | refine qwz ?_ | refine qwl ?_ | refine qwg ?_ | refine qwf ?_ | refine qwd ?_ | refine qwE ?_ | refine qwX ?_ | refine qwe ?_ | refine qwx ?_ | refine qwo ?_ | (refine wn rfl ?_; refine eg_then ?_))
  refine ws rfl (loc_det rfl (d_idx (i := 1) rfl rfl rfl (by decide))) ?_
  repeat (first | refine qwp ?_ | refine qwn ?_ | refine qwa ?_ | refine qws ?_ | refine qwi ?_ | refine qwz ?_ | refine qwl ?_ | refine qwg ?_ | refine qwf ?_ | refine qwd ?_ | refine qwE ?_ | refine qwX ?_ | refine qwe ?_ | refine qwx ?_ | refine qwo ?_ | (refine wn rfl ?_; refine eg_then ?_))
  refine wv rfl (loc_alloc rfl (a_slice (cells := (vwB 4).cs none 0 none 0 (some ⟨b6, 0, none⟩) 1 ++ vwA.cs none 0 none 0 (some ⟨b5, 0, none⟩) 1) rfl rfl rfl rfl (by kernel_rfl) rfl)) ?_
  refine ws (v := .tuple #[.slice none 0 0, .int .i64 1]) rfl (loc_elim 69 rfl (by kernel_rfl) trivial ?_) ?_
  · rintro v1 k13 hle13 ⟨b8, rfl, hk8, _⟩
    exact loc_call_is rfl rfl rfl rfl (cut_not (views_repR hk8 (hle13 _ _ h5) (hle13 _ _ h6)) (by decide) smallR x3 rfl)
  repeat (first | refine qwp ?_ | refine qwn ?_ | refine qwa ?_ | refine qws ?_ | refine qwi ?_ | refine qwz ?_ | refine qwl ?_ | refine qwg ?_ | refine qwf ?_ | refine qwd ?_ | refine qwE ?_ | refine qwX ?_ | refine qwe ?_ | refine qwx ?_ | refine qwo ?_ | (refine wn rfl ?_; refine eg_then ?_))
  refine wnn ?_
  intro k14 vs hle14 hvs
  simp only [nameE, nameP]
  refine eg_then ?_
  have cA := cA.le hle14
  have cB := cB.le hle14
  have hc := hc.le hle14
  have hd := hd.le hle14
  have hh := hh.le hle14
  have hl := hl.le hle14
  have hf := hf.le hle14
  have hc0 := hc0.le hle14
  have hc1 := hc1.le hle14
  have hf0 := hf0.le hle14
  have hf1 := hf1.le hle14
  obtain ⟨f0, f0'⟩ := Mark.parts hf0
  obtain ⟨f1, f1'⟩ := Mark.parts hf1
  have hc0 := hc0
  have hc1 := hc1
  repeat (first | refine cg_seq ?_ | refine cg_region ?_ | refine rg_nil ?_ | refine eg_then ?_ | refine qsp ?_ | refine qsn ?_ | refine qsa ?_ | refine qss ?_ | refine qsi ?_ | refine qsz ?_ | refine qsl ?_ | refine qsg ?_ | refine qsf ?_ | refine qsd ?_ | refine qsE ?_ | refine qsX ?_ | refine qse ?_ | refine qsx ?_ | refine qso ?_ | refine cg_cond_true rfl ?_ | refine cg_cond_false rfl ?_ | refine cg_skip ?_ | refine cg_block ?_ | refine eg_in_normal ?_ | refine cg_ret ?_ | refine eg_then_ret ?_ | refine eg_in_ret ?_ | refine cg_exit ?_ | refine eg_then_exit ?_ | refine eg_in_exit ?_ | refine eg_in_other rfl ?_)
  refine cg_any (by kernel_rfl) rfl ?_
  repeat (first | refine qwp ?_ | refine qwn ?_ | refine qwa ?_ | refine qws ?_ | refine qwi ?_ | refine qwz ?_ | refine qwl ?_ | refine qwg ?_ | refine qwf ?_ | refine qwd ?_ | refine qwE ?_ | refine qwX ?_ | refine qwe ?_ | refine qwx ?_ | refine qwo ?_ | (refine wn rfl ?_; refine eg_then ?_))
  refine ws rfl (loc_det rfl (d_lit (cells := (⟨tpA, 2⟩ : Mark).vs) rfl rfl rfl)) ?_
  repeat (first | refine qwp ?_ | refine qwn ?_ | refine qwa ?_ | refine qws ?_ | refine qwi ?_ | refine qwz ?_ | refine qwl ?_ | refine qwg ?_ | refine qwf ?_ | refine qwd ?_ | refine qwE ?_ | refine qwX ?_ | refine qwe ?_ | refine qwx ?_ | refine qwo ?_ | (refine wn rfl ?_; refine eg_then ?_))
  refine ws rfl (loc_det rfl (d_idx (i := 1) rfl rfl rfl (by decide))) ?_
  repeat (first | refine qwp ?_ | refine qwn ?_ | refine qwa ?_ | refine qws ?_ | refine qwi ?_ | refine qwz ?_ | refine qwl ?_ | refine qwg ?_ | refine qwf ?_ | refine qwd ?_ | refine qwE ?_ | refine qwX ?_ | refine qwe ?_ | refine qwx ?_ | refine qwo ?_ | (refine wn rfl ?_; refine eg_then ?_))
  refine ws rfl (loc_det rfl (d_lit (cells := (⟨tpB, 1⟩ : Mark).vs) rfl rfl rfl)) ?_
  repeat (first | refine qwp ?_ | refine qwn ?_ | refine qwa ?_ | refine qws ?_ | refine qwi ?_ | refine qwz ?_ | refine qwl ?_ | refine qwg ?_ | refine qwf ?_ | refine qwd ?_ | refine qwE ?_ | refine qwX ?_ | refine qwe ?_ | refine qwx ?_ | refine qwo ?_ | (refine wn rfl ?_; refine eg_then ?_))
  refine ws rfl (loc_det rfl (d_idx (i := 1) rfl rfl rfl (by decide))) ?_
  repeat (first | refine qwp ?_ | refine qwn ?_ | refine qwa ?_ | refine qws ?_ | refine qwi ?_ | refine qwz ?_ | refine qwl ?_ | refine qwg ?_ | refine qwf ?_ | refine qwd ?_ | refine qwE ?_ | refine qwX ?_ | refine qwe ?_ | refine qwx ?_ | refine qwo ?_ | (refine wn rfl ?_; refine eg_then ?_))
  have q1 := sameMark_ct hd hc
  rw [decide_eq_true rfl] at q1
  refine ws rfl (loc_call_is rfl rfl rfl rfl (q1)) ?_
  repeat (first | refine qwp ?_ | refine qwn ?_ | refine qwa ?_ | refine qws ?_ | refine qwi ?_ | refine qwz ?_ | refine qwl ?_ | refine qwg ?_ | refine qwf ?_ | refine qwd ?_ | refine qwE ?_ | refine qwX ?_ | refine qwe ?_ | refine qwx ?_ | refine qwo ?_ | (refine wn rfl ?_; refine eg_then ?_))
  have q2 := cBelow_ct hc hh
  rw [x9] at q2
  refine ws rfl (loc_call_is rfl rfl rfl rfl (q2)) ?_
  repeat (first | refine qwp ?_ | refine qwn ?_ | refine qwa ?_ | refine qws ?_ | refine qwi ?_ | refine qwz ?_ | refine qwl ?_ | refine qwg ?_ | refine qwf ?_ | refine qwd ?_ | refine qwE ?_ | refine qwX ?_ | refine qwe ?_ | refine qwx ?_ | refine qwo ?_ | (refine wn rfl ?_; refine eg_then ?_))
  have q3 := cBelow_ct hh hc
  rw [x10] at q3
  refine ws rfl (loc_call_is rfl rfl rfl rfl (q3)) ?_
  repeat (first | refine qwp ?_ | refine qwn ?_ | refine qwa ?_ | refine qws ?_ | refine qwi ?_ | refine qwz ?_ | refine qwl ?_ | refine qwg ?_ | refine qwf ?_ | refine qwd ?_ | refine qwE ?_ | refine qwX ?_ | refine qwe ?_ | refine qwx ?_ | refine qwo ?_ | (refine wn rfl ?_; refine eg_then ?_))
  have q4 := whole_ct hl hc (by decide) (smallV 4)
  rw [x11] at q4
  refine ws rfl (loc_call_is rfl rfl rfl rfl (q4)) ?_
  repeat (first | refine qwp ?_ | refine qwn ?_ | refine qwa ?_ | refine qws ?_ | refine qwi ?_ | refine qwz ?_ | refine qwl ?_ | refine qwg ?_ | refine qwf ?_ | refine qwd ?_ | refine qwE ?_ | refine qwX ?_ | refine qwe ?_ | refine qwx ?_ | refine qwo ?_ | (refine wn rfl ?_; refine eg_then ?_))
  have q5 := whole_ct hl hf (by decide) (smallV 4)
  rw [x12] at q5
  refine ws rfl (loc_call_is rfl rfl rfl rfl (q5)) ?_
  repeat (first | refine qwp ?_ | refine qwn ?_ | refine qwa ?_ | refine qws ?_ | refine qwi ?_ | refine qwz ?_ | refine qwl ?_ | refine qwg ?_ | refine qwf ?_ | refine qwd ?_ | refine qwE ?_ | refine qwX ?_ | refine qwe ?_ | refine qwx ?_ | refine qwo ?_ | (refine wn rfl ?_; refine eg_then ?_))
  have q6 := whole_ct hl hh (by decide) (smallV 4)
  rw [x13] at q6
  refine ws rfl (loc_call_is rfl rfl rfl rfl (q6)) ?_
  repeat (first | refine qwp ?_ | refine qwn ?_ | refine qwa ?_ | refine qws ?_ | refine qwi ?_ | refine qwz ?_ | refine qwl ?_ | refine qwg ?_ | refine qwf ?_ | refine qwd ?_ | refine qwE ?_ | refine qwX ?_ | refine qwe ?_ | refine qwx ?_ | refine qwo ?_ | (refine wn rfl ?_; refine eg_then ?_))
  repeat (first | refine cg_seq ?_ | refine cg_region ?_ | refine rg_nil ?_ | refine eg_then ?_ | refine qsp ?_ | refine qsn ?_ | refine qsa ?_ | refine qss ?_ | refine qsi ?_ | refine qsz ?_ | refine qsl ?_ | refine qsg ?_ | refine qsf ?_ | refine qsd ?_ | refine qsE ?_ | refine qsX ?_ | refine qse ?_ | refine qsx ?_ | refine qso ?_ | refine cg_cond_true rfl ?_ | refine cg_cond_false rfl ?_ | refine cg_skip ?_ | refine cg_block ?_ | refine eg_in_normal ?_ | refine cg_ret ?_ | refine eg_then_ret ?_ | refine eg_in_ret ?_ | refine cg_exit ?_ | refine eg_then_exit ?_ | refine eg_in_exit ?_ | refine eg_in_other rfl ?_)
  exact eg_return rfl rfl rfl
end Go.Wm

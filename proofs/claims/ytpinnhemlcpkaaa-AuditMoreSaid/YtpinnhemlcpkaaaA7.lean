/-
  The chapter's example. Conditions: none.
-/
import Derived.Test.YtpinnhemlcpkaaaA1
import Derived.Test.YtpinnhemlcpkaaaA3
import Derived.Test.YtpinnhemlcpkaaaA5
import Derived.Test.YtpinnhemlcpkaaaA6
set_option linter.all false
namespace Go.Wm
open Go.RowKit Go.Proofs
attribute [local irreducible] RG CG EG WA Loc Det Alc CT Exit.then Exit.inBlock Code.wp bodyPost

theorem sl_flat {α : Type} {T : Ty α} {f : α → List Value} {k : PH} {b : Nat} {c : Array Value} {et : TypeId} {fr : Nat × Nat} {xs : List α} (h : k b = some (.cells c et fr)) (hc : c.toList = xs.flatMap f) (hr : ∀ x ∈ xs, T.rep k (f x) x) (hm : xs.length ≤ maxLen) : Sl T k (some ⟨b, 0, none⟩) xs.length xs :=
  sl_rows (css := xs.map f) h (by rw [hc]; simp [List.flatMap]) (by simp) (fun i cs x h1 h2 => by
    rw [List.getElem?_map, h2] at h1
    cases h1
    exact hr x (List.mem_of_getElem? h2)) hm
theorem sl_none {α : Type} (T : Ty α) (k : PH) : Sl T k none 0 [] := ⟨by simp, by simp [maxLen], fun _ => rfl, by simp, by simp⟩

def tpT : Tp := ⟨⟨#[116]⟩, 0, 0⟩
def l4 : List Told := [oneP 1, oneP 3, oneP 1, oneP 4]
def l3 : List Told := [oneP 1, oneP 3, oneP 2]
def rcV (off : Int) : Rec := ⟨off, .empty, ⟨#[118]⟩, false, 0⟩
def btV (off : Int) : Batch := ⟨off, off, 0, 0, -1, 0, 0, false, 0, [rcV off]⟩
def bs2 : List Batch := [btV 1, btV 2]
def fcV (off : Int) : Fact := ⟨tpT, off, ⟨0, .empty, .empty, false, 0⟩, 7, 0, true⟩
def fs2 : List Fact := [fcV 1, fcV 2]
instance (n : Int) : Decidable (I64 n) := by unfold I64; infer_instance
theorem okI (n : Int) (h1 : -1000 ≤ n) (h2 : n ≤ 1000) : I64 n := ⟨by omega, by omega⟩
theorem okS0 : ByteArray.empty.size ≤ maxLen := by decide
theorem okS1 : (⟨#[116]⟩ : ByteArray).size ≤ maxLen := by decide
theorem okS2 : (⟨#[118]⟩ : ByteArray).size ≤ maxLen := by decide
theorem okI0 : I64 0 := by decide
theorem okOne (off : Int) (h1 : -900 ≤ off) (h2 : off ≤ 900) : (oneP off).ok :=
  ⟨⟨okS1, okI0, okI0⟩, okI off (by omega) (by omega), okI (off + 10) (by omega) (by omega), okI off (by omega) (by omega), okS0, okS2, trivial, okI0⟩
theorem ok4 : ∀ x ∈ l4, x.ok := by
  intro x hx
  simp only [l4, List.mem_cons, List.not_mem_nil, or_false] at hx
  rcases hx with rfl | rfl | rfl | rfl <;> exact okOne _ (by decide) (by decide)
theorem ok3 : ∀ x ∈ l3, x.ok := by
  intro x hx
  simp only [l3, List.mem_cons, List.not_mem_nil, or_false] at hx
  rcases hx with rfl | rfl | rfl <;> exact okOne _ (by decide) (by decide)
theorem okTp : tpT.ok := ⟨okS1, okI0, okI0⟩
theorem okRc (off : Int) (h1 : -1000 ≤ off) (h2 : off ≤ 1000) : (rcV off).ok := ⟨okI _ h1 h2, okS0, okS2, trivial, okI0⟩
theorem okBt (off : Int) (h1 : -1000 ≤ off) (h2 : off ≤ 1000) : (btV off).ok := ⟨okI _ h1 h2, okI _ h1 h2, okI0, okI0, okI (-1) (by omega) (by omega), okI0, okI0, trivial, okI0, trivial⟩
theorem okFc (off : Int) (h1 : -1000 ≤ off) (h2 : off ≤ 1000) : (fcV off).ok := ⟨okTp, okI _ h1 h2, ⟨okI0, okS0, okS0, trivial, okI0⟩, okI 7 (by omega) (by omega), okI0, trivial⟩
theorem e1 : decide (Scan ordOk l4) = true := by decide +kernel
theorem e2 : decide (Scan (onceOk [⟨tpT, 2⟩]) l4) = false := by decide +kernel
theorem e3 : decide (Scan (onceOk [⟨tpT, 4⟩]) l4) = true := by decide +kernel
theorem e4 : decide (Scan ordOk l3) = false := by decide +kernel
theorem e5 : (neededL bs2 [] 2).all (toldP l4) = true := by decide +kernel
theorem e6 : (neededL bs2 [] 3).all (toldP l4) = false := by decide +kernel
theorem e7 : decide (WholeR l4 fs2) = false := by decide +kernel
theorem e8 : decide (WholeR l4 (fs2.take 1)) = true := by decide +kernel

set_option maxHeartbeats 4000000 in
theorem live_ct {k : PH} : CT Try.prog 9 #[] k (fun _ v => v = .bool true) := by
  refine ct_of_body (l := []) Try.func9 rfl Try.ntmps9 (by simp) (fun _ _ _ _ h => h) fun F hF0 hFm => ?_
  repeat (first | refine cg_seq ?_ | refine cg_region ?_ | refine rg_nil ?_ | refine eg_then ?_ | refine qsp ?_ | refine qsn ?_ | refine qsa ?_ | refine qss ?_ | refine qsi ?_ | refine qsz ?_ | refine qsl ?_ | refine qsg ?_ | refine qsf ?_ | refine qsd ?_ | refine qsE ?_ | refine qsX ?_ | refine qse ?_ | refine qsx ?_ | refine qso ?_ | refine cg_cond_true rfl ?_ | refine cg_cond_false rfl ?_ | refine cg_skip ?_ | refine cg_block ?_ | refine eg_in_normal ?_ | refine cg_ret ?_ | refine eg_then_ret ?_ | refine eg_in_ret ?_ | refine cg_exit ?_ | refine eg_then_exit ?_ | refine eg_in_exit ?_ | refine eg_in_other rfl ?_)
  refine rs rfl rfl (loc_det rfl (d_lit (cells := tpT.vs) rfl rfl rfl)) ?_
  refine rb rfl rfl rfl rfl (a_alloc rfl) ?_; intro b1 k1 hb1 hN1 hle1 hk1
  refine rw1 rfl rfl rfl rfl rfl rfl rfl hk1 rfl (.inl hN1) ?_ ?_; (simp [Tp.vs, Rec.vs, Told.vs, Mark.vs, Gone.vs, Fact.vs, Batch.cs, Place.vs, Value.oneCell']); intro k2 ht2 hk2
  have ct := cells_at (vs := tpT.vs) hk2 rfl
  repeat (first | refine cg_seq ?_ | refine cg_region ?_ | refine rg_nil ?_ | refine eg_then ?_ | refine qsp ?_ | refine qsn ?_ | refine qsa ?_ | refine qss ?_ | refine qsi ?_ | refine qsz ?_ | refine qsl ?_ | refine qsg ?_ | refine qsf ?_ | refine qsd ?_ | refine qsE ?_ | refine qsX ?_ | refine qse ?_ | refine qsx ?_ | refine qso ?_ | refine cg_cond_true rfl ?_ | refine cg_cond_false rfl ?_ | refine cg_skip ?_ | refine cg_block ?_ | refine eg_in_normal ?_ | refine cg_ret ?_ | refine eg_then_ret ?_ | refine eg_in_ret ?_ | refine cg_exit ?_ | refine eg_then_exit ?_ | refine eg_in_exit ?_ | refine eg_in_other rfl ?_)
  refine rs rfl rfl (loc_call_is rfl rfl rfl rfl (one_ct (by decide) (by decide))) ?_
  refine rs rfl rfl (loc_call_is rfl rfl rfl rfl (one_ct (by decide) (by decide))) ?_
  refine rs rfl rfl (loc_call_is rfl rfl rfl rfl (one_ct (by decide) (by decide))) ?_
  refine rs rfl rfl (loc_call_is rfl rfl rfl rfl (one_ct (by decide) (by decide))) ?_
  refine rb rfl rfl rfl rfl (a_slice (cells := l4.flatMap Told.vs) rfl rfl rfl rfl (by kernel_rfl) rfl) ?_; intro b3 k3 hb3 hN3 hle3 hk3
  have hl : Sl tTold k3 (some ⟨b3, 0, none⟩) 4 l4 := sl_flat (xs := l4) hk3 rfl (fun x hx => ⟨rfl, ok4 x hx⟩) (by decide)
  repeat (first | refine cg_seq ?_ | refine cg_region ?_ | refine rg_nil ?_ | refine eg_then ?_ | refine qsp ?_ | refine qsn ?_ | refine qsa ?_ | refine qss ?_ | refine qsi ?_ | refine qsz ?_ | refine qsl ?_ | refine qsg ?_ | refine qsf ?_ | refine qsd ?_ | refine qsE ?_ | refine qsX ?_ | refine qse ?_ | refine qsx ?_ | refine qso ?_ | refine cg_cond_true rfl ?_ | refine cg_cond_false rfl ?_ | refine cg_skip ?_ | refine cg_block ?_ | refine eg_in_normal ?_ | refine cg_ret ?_ | refine eg_then_ret ?_ | refine eg_in_ret ?_ | refine cg_exit ?_ | refine eg_then_exit ?_ | refine eg_in_exit ?_ | refine eg_in_other rfl ?_)
  refine rs rfl rfl (loc_det rfl (d_lit (cells := (rcV 1).vs) rfl rfl rfl)) ?_
  refine rb rfl rfl rfl rfl (a_slice (cells := [rcV 1].flatMap Rec.vs) rfl rfl rfl rfl (by kernel_rfl) rfl) ?_; intro b4 k4 hb4 hN4 hle4 hk4
  refine rs rfl rfl (loc_det rfl (d_lit (cells := (btV 1).cs (some ⟨b4, 0, none⟩) 1) rfl rfl rfl)) ?_
  refine rs rfl rfl (loc_det rfl (d_lit (cells := (rcV 2).vs) rfl rfl rfl)) ?_
  refine rb rfl rfl rfl rfl (a_slice (cells := [rcV 2].flatMap Rec.vs) rfl rfl rfl rfl (by kernel_rfl) rfl) ?_; intro b5 k5 hb5 hN5 hle5 hk5
  refine rs rfl rfl (loc_det rfl (d_lit (cells := (btV 2).cs (some ⟨b5, 0, none⟩) 1) rfl rfl rfl)) ?_
  refine rb rfl rfl rfl rfl (a_slice (cells := (btV 1).cs (some ⟨b4, 0, none⟩) 1 ++ (btV 2).cs (some ⟨b5, 0, none⟩) 1) rfl rfl rfl rfl (by kernel_rfl) rfl) ?_; intro b6 k6 hb6 hN6 hle6 hk6
  have r4 : Sl tRec k4 (some ⟨b4, 0, none⟩) 1 [rcV 1] := sl_flat (xs := [rcV 1]) hk4 rfl (fun x hx => ⟨rfl, by simp at hx; subst hx; exact okRc 1 (by decide) (by decide)⟩) (by decide)
  have r5 : Sl tRec k5 (some ⟨b5, 0, none⟩) 1 [rcV 2] := sl_flat (xs := [rcV 2]) hk5 rfl (fun x hx => ⟨rfl, by simp at hx; subst hx; exact okRc 2 (by decide) (by decide)⟩) (by decide)
  have hbs : Sl tBatch k6 (some ⟨b6, 0, none⟩) 2 bs2 := sl_rows (xs := bs2) (css := [(btV 1).cs (some ⟨b4, 0, none⟩) 1, (btV 2).cs (some ⟨b5, 0, none⟩) 1]) hk6 rfl rfl (fun i cs x h1 h2 => by
    match i, h1, h2 with
    | 0, h1, h2 => simp [bs2] at h1 h2; rw [← h1, ← h2]; exact ⟨_, _, rfl, r4.le (hle5.trans hle6), okBt 1 (by decide) (by decide)⟩
    | 1, h1, h2 => simp [bs2] at h1 h2; rw [← h1, ← h2]; exact ⟨_, _, rfl, r5.le hle6, okBt 2 (by decide) (by decide)⟩) (by decide)
  have ct := ct.le (hle3.trans (hle4.trans (hle5.trans hle6)))
  repeat (first | refine cg_seq ?_ | refine cg_region ?_ | refine rg_nil ?_ | refine eg_then ?_ | refine qsp ?_ | refine qsn ?_ | refine qsa ?_ | refine qss ?_ | refine qsi ?_ | refine qsz ?_ | refine qsl ?_ | refine qsg ?_ | refine qsf ?_ | refine qsd ?_ | refine qsE ?_ | refine qsX ?_ | refine qse ?_ | refine qsx ?_ | refine qso ?_ | refine cg_cond_true rfl ?_ | refine cg_cond_false rfl ?_ | refine cg_skip ?_ | refine cg_block ?_ | refine eg_in_normal ?_ | refine cg_ret ?_ | refine eg_then_ret ?_ | refine eg_in_ret ?_ | refine cg_exit ?_ | refine eg_then_exit ?_ | refine eg_in_exit ?_ | refine eg_in_other rfl ?_)
  refine rs rfl rfl (loc_det rfl (d_lit (cells := (fcV 1).vs) rfl rfl rfl)) ?_
  repeat (first | refine cg_seq ?_ | refine cg_region ?_ | refine rg_nil ?_ | refine eg_then ?_ | refine qsp ?_ | refine qsn ?_ | refine qsa ?_ | refine qss ?_ | refine qsi ?_ | refine qsz ?_ | refine qsl ?_ | refine qsg ?_ | refine qsf ?_ | refine qsd ?_ | refine qsE ?_ | refine qsX ?_ | refine qse ?_ | refine qsx ?_ | refine qso ?_ | refine cg_cond_true rfl ?_ | refine cg_cond_false rfl ?_ | refine cg_skip ?_ | refine cg_block ?_ | refine eg_in_normal ?_ | refine cg_ret ?_ | refine eg_then_ret ?_ | refine eg_in_ret ?_ | refine cg_exit ?_ | refine eg_then_exit ?_ | refine eg_in_exit ?_ | refine eg_in_other rfl ?_)
  refine rs rfl rfl (loc_det rfl (d_lit (cells := (fcV 2).vs) rfl rfl rfl)) ?_
  refine rb rfl rfl rfl rfl (a_slice (cells := fs2.flatMap Fact.vs) rfl rfl rfl rfl (by kernel_rfl) rfl) ?_; intro b7 k7 hb7 hN7 hle7 hk7
  have hfs : Sl tFact k7 (some ⟨b7, 0, none⟩) 2 fs2 := sl_flat (xs := fs2) hk7 rfl (fun x hx => ⟨rfl, by
    simp only [fs2, List.mem_cons, List.not_mem_nil, or_false] at hx
    rcases hx with rfl | rfl <;> exact okFc _ (by decide) (by decide)⟩) (by decide)
  have ct := ct.le hle7
  have hl := hl.le (hle4.trans (hle5.trans (hle6.trans hle7)))
  have hbs := hbs.le hle7
  repeat (first | refine cg_seq ?_ | refine cg_region ?_ | refine rg_nil ?_ | refine eg_then ?_ | refine qsp ?_ | refine qsn ?_ | refine qsa ?_ | refine qss ?_ | refine qsi ?_ | refine qsz ?_ | refine qsl ?_ | refine qsg ?_ | refine qsf ?_ | refine qsd ?_ | refine qsE ?_ | refine qsX ?_ | refine qse ?_ | refine qsx ?_ | refine qso ?_ | refine cg_cond_true rfl ?_ | refine cg_cond_false rfl ?_ | refine cg_skip ?_ | refine cg_block ?_ | refine eg_in_normal ?_ | refine cg_ret ?_ | refine eg_then_ret ?_ | refine eg_in_ret ?_ | refine cg_exit ?_ | refine eg_then_exit ?_ | refine eg_in_exit ?_ | refine eg_in_other rfl ?_)
  refine rv rfl rfl rfl (loc_call rfl rfl rfl rfl sl_mono (home_ct tpT hl (by decide))) ?_
  rintro k8 hle8 _ ⟨ah, ch, rfl, hh⟩
  have ct := ct.le hle8
  have hl := hl.le hle8
  have hbs := hbs.le hle8
  have hfs := hfs.le hle8
  have q1 := order_ct hl
  rw [e1] at q1
  repeat (first | refine cg_seq ?_ | refine cg_region ?_ | refine rg_nil ?_ | refine eg_then ?_ | refine qsp ?_ | refine qsn ?_ | refine qsa ?_ | refine qss ?_ | refine qsi ?_ | refine qsz ?_ | refine qsl ?_ | refine qsg ?_ | refine qsf ?_ | refine qsd ?_ | refine qsE ?_ | refine qsX ?_ | refine qse ?_ | refine qsx ?_ | refine qso ?_ | refine cg_cond_true rfl ?_ | refine cg_cond_false rfl ?_ | refine cg_skip ?_ | refine cg_block ?_ | refine eg_in_normal ?_ | refine cg_ret ?_ | refine eg_then_ret ?_ | refine eg_in_ret ?_ | refine cg_exit ?_ | refine eg_then_exit ?_ | refine eg_in_exit ?_ | refine eg_in_other rfl ?_)
  refine rs rfl rfl (loc_call_is rfl rfl rfl rfl (q1)) ?_
  repeat (first | refine cg_seq ?_ | refine cg_region ?_ | refine rg_nil ?_ | refine eg_then ?_ | refine qsp ?_ | refine qsn ?_ | refine qsa ?_ | refine qss ?_ | refine qsi ?_ | refine qsz ?_ | refine qsl ?_ | refine qsg ?_ | refine qsf ?_ | refine qsd ?_ | refine qsE ?_ | refine qsX ?_ | refine qse ?_ | refine qsx ?_ | refine qso ?_ | refine cg_cond_true rfl ?_ | refine cg_cond_false rfl ?_ | refine cg_skip ?_ | refine cg_block ?_ | refine eg_in_normal ?_ | refine cg_ret ?_ | refine eg_then_ret ?_ | refine eg_in_ret ?_ | refine cg_exit ?_ | refine eg_then_exit ?_ | refine eg_in_exit ?_ | refine eg_in_other rfl ?_)
  refine rs rfl rfl (loc_det rfl (d_lit (cells := (⟨tpT, 2⟩ : Mark).vs) rfl rfl rfl)) ?_
  refine rbg rfl rfl rfl rfl (a_slice (cells := [(⟨tpT, 2⟩ : Mark)].flatMap Mark.vs) rfl rfl rfl rfl (by kernel_rfl) rfl) ?_; intro b9 k9 hb9 hN9 hle9 hk9
  have hm9 : Sl tMark k9 (some ⟨b9, 0, none⟩) 1 [⟨tpT, 2⟩] := sl_flat (xs := [(⟨tpT, 2⟩ : Mark)]) hk9 rfl (fun x hx => ⟨rfl, by simp at hx; subst hx; exact ⟨okTp, okI 2 (by decide) (by decide)⟩⟩) (by decide)
  have q2 := once_ct (hl.le hle9) hm9
  rw [e2] at q2
  have ct := ct.le hle9
  repeat (first | refine cg_seq ?_ | refine cg_region ?_ | refine rg_nil ?_ | refine eg_then ?_ | refine qsp ?_ | refine qsn ?_ | refine qsa ?_ | refine qss ?_ | refine qsi ?_ | refine qsz ?_ | refine qsl ?_ | refine qsg ?_ | refine qsf ?_ | refine qsd ?_ | refine qsE ?_ | refine qsX ?_ | refine qse ?_ | refine qsx ?_ | refine qso ?_ | refine cg_cond_true rfl ?_ | refine cg_cond_false rfl ?_ | refine cg_skip ?_ | refine cg_block ?_ | refine eg_in_normal ?_ | refine cg_ret ?_ | refine eg_then_ret ?_ | refine eg_in_ret ?_ | refine cg_exit ?_ | refine eg_then_exit ?_ | refine eg_in_exit ?_ | refine eg_in_other rfl ?_)
  refine rs rfl rfl (loc_call_is rfl rfl rfl rfl (q2)) ?_
  repeat (first | refine cg_seq ?_ | refine cg_region ?_ | refine rg_nil ?_ | refine eg_then ?_ | refine qsp ?_ | refine qsn ?_ | refine qsa ?_ | refine qss ?_ | refine qsi ?_ | refine qsz ?_ | refine qsl ?_ | refine qsg ?_ | refine qsf ?_ | refine qsd ?_ | refine qsE ?_ | refine qsX ?_ | refine qse ?_ | refine qsx ?_ | refine qso ?_ | refine cg_cond_true rfl ?_ | refine cg_cond_false rfl ?_ | refine cg_skip ?_ | refine cg_block ?_ | refine eg_in_normal ?_ | refine cg_ret ?_ | refine eg_then_ret ?_ | refine eg_in_ret ?_ | refine cg_exit ?_ | refine eg_then_exit ?_ | refine eg_in_exit ?_ | refine eg_in_other rfl ?_)
  refine rs rfl rfl (loc_det rfl (d_lit (cells := (⟨tpT, 4⟩ : Mark).vs) rfl rfl rfl)) ?_
  refine rbg rfl rfl rfl rfl (a_slice (cells := [(⟨tpT, 4⟩ : Mark)].flatMap Mark.vs) rfl rfl rfl rfl (by kernel_rfl) rfl) ?_; intro b10 k10 hb10 hN10 hle10 hk10
  have hm10 : Sl tMark k10 (some ⟨b10, 0, none⟩) 1 [⟨tpT, 4⟩] := sl_flat (xs := [(⟨tpT, 4⟩ : Mark)]) hk10 rfl (fun x hx => ⟨rfl, by simp at hx; subst hx; exact ⟨okTp, okI 4 (by decide) (by decide)⟩⟩) (by decide)
  have q3 := once_ct (hl.le (hle9.trans hle10)) hm10
  rw [e3] at q3
  repeat (first | refine cg_seq ?_ | refine cg_region ?_ | refine rg_nil ?_ | refine eg_then ?_ | refine qsp ?_ | refine qsn ?_ | refine qsa ?_ | refine qss ?_ | refine qsi ?_ | refine qsz ?_ | refine qsl ?_ | refine qsg ?_ | refine qsf ?_ | refine qsd ?_ | refine qsE ?_ | refine qsX ?_ | refine qse ?_ | refine qsx ?_ | refine qso ?_ | refine cg_cond_true rfl ?_ | refine cg_cond_false rfl ?_ | refine cg_skip ?_ | refine cg_block ?_ | refine eg_in_normal ?_ | refine cg_ret ?_ | refine eg_then_ret ?_ | refine eg_in_ret ?_ | refine cg_exit ?_ | refine eg_then_exit ?_ | refine eg_in_exit ?_ | refine eg_in_other rfl ?_)
  refine rs rfl rfl (loc_call_is rfl rfl rfl rfl (q3)) ?_
  repeat (first | refine cg_seq ?_ | refine cg_region ?_ | refine rg_nil ?_ | refine eg_then ?_ | refine qsp ?_ | refine qsn ?_ | refine qsa ?_ | refine qss ?_ | refine qsi ?_ | refine qsz ?_ | refine qsl ?_ | refine qsg ?_ | refine qsf ?_ | refine qsd ?_ | refine qsE ?_ | refine qsX ?_ | refine qse ?_ | refine qsx ?_ | refine qso ?_ | refine cg_cond_true rfl ?_ | refine cg_cond_false rfl ?_ | refine cg_skip ?_ | refine cg_block ?_ | refine eg_in_normal ?_ | refine cg_ret ?_ | refine eg_then_ret ?_ | refine eg_in_ret ?_ | refine cg_exit ?_ | refine eg_then_exit ?_ | refine eg_in_exit ?_ | refine eg_in_other rfl ?_)
  refine rs rfl rfl (loc_call_is rfl rfl rfl rfl (one_ct (by decide) (by decide))) ?_
  refine rs rfl rfl (loc_call_is rfl rfl rfl rfl (one_ct (by decide) (by decide))) ?_
  refine rs rfl rfl (loc_call_is rfl rfl rfl rfl (one_ct (by decide) (by decide))) ?_
  refine rbg rfl rfl rfl rfl (a_slice (cells := l3.flatMap Told.vs) rfl rfl rfl rfl (by kernel_rfl) rfl) ?_; intro b11 k11 hb11 hN11 hle11 hk11
  have hl3 : Sl tTold k11 (some ⟨b11, 0, none⟩) 3 l3 := sl_flat (xs := l3) hk11 rfl (fun x hx => ⟨rfl, ok3 x hx⟩) (by decide)
  have q4 := order_ct hl3
  rw [e4] at q4
  have hle12 := hle9.trans (hle10.trans hle11)
  have hl := hl.le hle12
  have hbs := hbs.le hle12
  have hfs := hfs.le hle12
  have hh := hh.le hle12
  repeat (first | refine cg_seq ?_ | refine cg_region ?_ | refine rg_nil ?_ | refine eg_then ?_ | refine qsp ?_ | refine qsn ?_ | refine qsa ?_ | refine qss ?_ | refine qsi ?_ | refine qsz ?_ | refine qsl ?_ | refine qsg ?_ | refine qsf ?_ | refine qsd ?_ | refine qsE ?_ | refine qsX ?_ | refine qse ?_ | refine qsx ?_ | refine qso ?_ | refine cg_cond_true rfl ?_ | refine cg_cond_false rfl ?_ | refine cg_skip ?_ | refine cg_block ?_ | refine eg_in_normal ?_ | refine cg_ret ?_ | refine eg_then_ret ?_ | refine eg_in_ret ?_ | refine cg_exit ?_ | refine eg_then_exit ?_ | refine eg_in_exit ?_ | refine eg_in_other rfl ?_)
  refine rs rfl rfl (loc_call_is rfl rfl rfl rfl (q4)) ?_
  have q5 := all_ct 2 hl hbs (sl_none tGone k11) (by decide)
  rw [e5] at q5
  repeat (first | refine cg_seq ?_ | refine cg_region ?_ | refine rg_nil ?_ | refine eg_then ?_ | refine qsp ?_ | refine qsn ?_ | refine qsa ?_ | refine qss ?_ | refine qsi ?_ | refine qsz ?_ | refine qsl ?_ | refine qsg ?_ | refine qsf ?_ | refine qsd ?_ | refine qsE ?_ | refine qsX ?_ | refine qse ?_ | refine qsx ?_ | refine qso ?_ | refine cg_cond_true rfl ?_ | refine cg_cond_false rfl ?_ | refine cg_skip ?_ | refine cg_block ?_ | refine eg_in_normal ?_ | refine cg_ret ?_ | refine eg_then_ret ?_ | refine eg_in_ret ?_ | refine cg_exit ?_ | refine eg_then_exit ?_ | refine eg_in_exit ?_ | refine eg_in_other rfl ?_)
  refine rs rfl rfl (loc_call_is rfl rfl rfl rfl (q5)) ?_
  have q6 := all_ct 3 hl hbs (sl_none tGone k11) (by decide)
  rw [e6] at q6
  repeat (first | refine cg_seq ?_ | refine cg_region ?_ | refine rg_nil ?_ | refine eg_then ?_ | refine qsp ?_ | refine qsn ?_ | refine qsa ?_ | refine qss ?_ | refine qsi ?_ | refine qsz ?_ | refine qsl ?_ | refine qsg ?_ | refine qsf ?_ | refine qsd ?_ | refine qsE ?_ | refine qsX ?_ | refine qse ?_ | refine qsx ?_ | refine qso ?_ | refine cg_cond_true rfl ?_ | refine cg_cond_false rfl ?_ | refine cg_skip ?_ | refine cg_block ?_ | refine eg_in_normal ?_ | refine cg_ret ?_ | refine eg_then_ret ?_ | refine eg_in_ret ?_ | refine cg_exit ?_ | refine eg_then_exit ?_ | refine eg_in_exit ?_ | refine eg_in_other rfl ?_)
  refine rs rfl rfl (loc_call_is rfl rfl rfl rfl (q6)) ?_
  have q7 := whole_ct hl hfs
  rw [e7] at q7
  repeat (first | refine cg_seq ?_ | refine cg_region ?_ | refine rg_nil ?_ | refine eg_then ?_ | refine qsp ?_ | refine qsn ?_ | refine qsa ?_ | refine qss ?_ | refine qsi ?_ | refine qsz ?_ | refine qsl ?_ | refine qsg ?_ | refine qsf ?_ | refine qsd ?_ | refine qsE ?_ | refine qsX ?_ | refine qse ?_ | refine qsx ?_ | refine qso ?_ | refine cg_cond_true rfl ?_ | refine cg_cond_false rfl ?_ | refine cg_skip ?_ | refine cg_block ?_ | refine eg_in_normal ?_ | refine cg_ret ?_ | refine eg_then_ret ?_ | refine eg_in_ret ?_ | refine cg_exit ?_ | refine eg_then_exit ?_ | refine eg_in_exit ?_ | refine eg_in_other rfl ?_)
  refine rs rfl rfl (loc_call_is rfl rfl rfl rfl (q7)) ?_
  repeat (first | refine cg_seq ?_ | refine cg_region ?_ | refine rg_nil ?_ | refine eg_then ?_ | refine qsp ?_ | refine qsn ?_ | refine qsa ?_ | refine qss ?_ | refine qsi ?_ | refine qsz ?_ | refine qsl ?_ | refine qsg ?_ | refine qsf ?_ | refine qsd ?_ | refine qsE ?_ | refine qsX ?_ | refine qse ?_ | refine qsx ?_ | refine qso ?_ | refine cg_cond_true rfl ?_ | refine cg_cond_false rfl ?_ | refine cg_skip ?_ | refine cg_block ?_ | refine eg_in_normal ?_ | refine cg_ret ?_ | refine eg_then_ret ?_ | refine eg_in_ret ?_ | refine cg_exit ?_ | refine eg_then_exit ?_ | refine eg_in_exit ?_ | refine eg_in_other rfl ?_)
  refine rs rfl rfl (loc_det rfl (d_pre (i := 1) hfs rfl rfl rfl (by decide))) ?_
  have q8 := whole_ct hl (hfs.take 1)
  rw [e8] at q8
  repeat (first | refine cg_seq ?_ | refine cg_region ?_ | refine rg_nil ?_ | refine eg_then ?_ | refine qsp ?_ | refine qsn ?_ | refine qsa ?_ | refine qss ?_ | refine qsi ?_ | refine qsz ?_ | refine qsl ?_ | refine qsg ?_ | refine qsf ?_ | refine qsd ?_ | refine qsE ?_ | refine qsX ?_ | refine qse ?_ | refine qsx ?_ | refine qso ?_ | refine cg_cond_true rfl ?_ | refine cg_cond_false rfl ?_ | refine cg_skip ?_ | refine cg_block ?_ | refine eg_in_normal ?_ | refine cg_ret ?_ | refine eg_then_ret ?_ | refine eg_in_ret ?_ | refine cg_exit ?_ | refine eg_then_exit ?_ | refine eg_in_exit ?_ | refine eg_in_other rfl ?_)
  refine rs rfl rfl (loc_call_is rfl rfl rfl rfl (q8)) ?_
  repeat (first | refine cg_seq ?_ | refine cg_region ?_ | refine rg_nil ?_ | refine eg_then ?_ | refine qsp ?_ | refine qsn ?_ | refine qsa ?_ | refine qss ?_ | refine qsi ?_ | refine qsz ?_ | refine qsl ?_ | refine qsg ?_ | refine qsf ?_ | refine qsd ?_ | refine qsE ?_ | refine qsX ?_ | refine qse ?_ | refine qsx ?_ | refine qso ?_ | refine cg_cond_true rfl ?_ | refine cg_cond_false rfl ?_ | refine cg_skip ?_ | refine cg_block ?_ | refine eg_in_normal ?_ | refine cg_ret ?_ | refine eg_then_ret ?_ | refine eg_in_ret ?_ | refine cg_exit ?_ | refine eg_then_exit ?_ | refine eg_in_exit ?_ | refine eg_in_other rfl ?_)
  obtain ⟨bx, ox, cx, rfl, ⟨rfl, _⟩, hcx⟩ := hh.el 1 (homeT (oneP 3)) (by decide +kernel)
  obtain ⟨p0, p1, p2, p3⟩ := Told.parts hcx
  obtain ⟨q0, q1', q2', q3', q4'⟩ := Rec.parts p3
  refine rs rfl rfl (loc_det rfl (d_idx (i := 1) rfl rfl rfl (by decide +kernel))) ?_
  repeat (first | refine cg_seq ?_ | refine cg_region ?_ | refine rg_nil ?_ | refine eg_then ?_ | refine qsp ?_ | refine qsn ?_ | refine qsa ?_ | refine qss ?_ | refine qsi ?_ | refine qsz ?_ | refine qsl ?_ | refine qsg ?_ | refine qsf ?_ | refine qsd ?_ | refine qsE ?_ | refine qsX ?_ | refine qse ?_ | refine qsx ?_ | refine qso ?_ | refine cg_cond_true rfl ?_ | refine cg_cond_false rfl ?_ | refine cg_skip ?_ | refine cg_block ?_ | refine eg_in_normal ?_ | refine cg_ret ?_ | refine eg_then_ret ?_ | refine eg_in_ret ?_ | refine cg_exit ?_ | refine eg_then_exit ?_ | refine eg_in_exit ?_ | refine eg_in_other rfl ?_)
  refine rs rfl rfl (loc_det rfl (d_idx (i := 1) rfl rfl rfl (by decide +kernel))) ?_
  repeat (first | refine cg_seq ?_ | refine cg_region ?_ | refine rg_nil ?_ | refine eg_then ?_ | refine qsp ?_ | refine qsn ?_ | refine qsa ?_ | refine qss ?_ | refine qsi ?_ | refine qsz ?_ | refine qsl ?_ | refine qsg ?_ | refine qsf ?_ | refine qsd ?_ | refine qsE ?_ | refine qsX ?_ | refine qse ?_ | refine qsx ?_ | refine qso ?_ | refine cg_cond_true rfl ?_ | refine cg_cond_false rfl ?_ | refine cg_skip ?_ | refine cg_block ?_ | refine eg_in_normal ?_ | refine cg_ret ?_ | refine eg_then_ret ?_ | refine eg_in_ret ?_ | refine cg_exit ?_ | refine eg_then_exit ?_ | refine eg_in_exit ?_ | refine eg_in_other rfl ?_)
  refine rs rfl rfl (loc_det rfl (d_lit (cells := (⟨.empty, 0, 0⟩ : Tp).vs) rfl rfl rfl)) ?_
  have q9 := home_ct ⟨.empty, 0, 0⟩ hl (by decide)
  refine rv rfl rfl rfl (loc_call rfl rfl rfl rfl sl_mono q9) ?_
  rintro k12 hle13 _ ⟨a9, c9, rfl, hh9⟩
  have e9 : (homeP l4 ⟨.empty, 0, 0⟩).length = 0 := by decide +kernel
  rw [e9]
  repeat (first | refine cg_seq ?_ | refine cg_region ?_ | refine rg_nil ?_ | refine eg_then ?_ | refine qsp ?_ | refine qsn ?_ | refine qsa ?_ | refine qss ?_ | refine qsi ?_ | refine qsz ?_ | refine qsl ?_ | refine qsg ?_ | refine qsf ?_ | refine qsd ?_ | refine qsE ?_ | refine qsX ?_ | refine qse ?_ | refine qsx ?_ | refine qso ?_ | refine cg_cond_true rfl ?_ | refine cg_cond_false rfl ?_ | refine cg_skip ?_ | refine cg_block ?_ | refine eg_in_normal ?_ | refine cg_ret ?_ | refine eg_then_ret ?_ | refine eg_in_ret ?_ | refine cg_exit ?_ | refine eg_then_exit ?_ | refine eg_in_exit ?_ | refine eg_in_other rfl ?_)
  exact eg_return rfl rfl rfl
end Go.Wm

/-
  The walk of TxnsStep. Conditions: that what is handed in reads as data.
-/
import Derived.Test.YtjonlpdnhbnmmaaGreatU1
import Derived.Test.YtjonlpdnhbnmmaaGreatU3
import Derived.Test.YtjonlpdnhbnmmaaGreatU5
import Derived.Test.YtjonlpdnhbnmmaaGreatU6
import Derived.Test.YtjonlpdnhbnmmaaGreatU0
import Derived.Test.YtjonlpdnhbnmmaaGreatQ2
import Derived.Test.YtjonlpdnhbnmmaaGreatCoA
set_option linter.all false
namespace Go.Wm
open Go.RowKit Go.Proofs
attribute [local irreducible] RG CG EG WA Loc Det Alc CT Exit.then Exit.inBlock Code.wp bodyPost
def tpT : Tp := ⟨⟨#[116]⟩, 0, 0⟩
def l4 : List Told := [oneP 1, oneP 3, oneP 1, oneP 4]
def l3 : List Told := [oneP 1, oneP 3, oneP 2]
def rcV (off : Int) : Rec := ⟨off, .empty, ⟨#[118]⟩, false, 0⟩
def btV (off : Int) : Batch := ⟨off, off, 0, 0, -1, 0, 0, false, 0, [rcV off]⟩
def bs2 : List Batch := [btV 1, btV 2]
def fcV (off : Int) : Fact := ⟨tpT, off, ⟨0, .empty, .empty, false, 0⟩, 7, 0, true⟩
def fs2 : List Fact := [fcV 1, fcV 2]
instance (n : Int) : Decidable (I64 n) := by unfold I64; infer_instance
theorem okIA (n : Int) (h1 : -1000 ≤ n) (h2 : n ≤ 1000) : I64 n := ⟨by omega, by omega⟩
theorem okS0 : ByteArray.empty.size ≤ maxLen := by decide
theorem okS1 : (⟨#[116]⟩ : ByteArray).size ≤ maxLen := by decide
theorem okS2 : (⟨#[118]⟩ : ByteArray).size ≤ maxLen := by decide
theorem okI0 : I64 0 := by decide
theorem okOne (off : Int) (h1 : -900 ≤ off) (h2 : off ≤ 900) : (oneP off).ok :=
  ⟨⟨okS1, okI0, okI0⟩, okIA off (by omega) (by omega), okIA (off + 10) (by omega) (by omega), okIA off (by omega) (by omega), okS0, okS2, trivial, okI0⟩
theorem ok4 : ∀ x ∈ l4, x.ok := by
  intro x hx
  simp only [l4, List.mem_cons, List.not_mem_nil, or_false] at hx
  rcases hx with rfl | rfl | rfl | rfl <;> exact okOne _ (by decide) (by decide)
theorem ok3 : ∀ x ∈ l3, x.ok := by
  intro x hx
  simp only [l3, List.mem_cons, List.not_mem_nil, or_false] at hx
  rcases hx with rfl | rfl | rfl <;> exact okOne _ (by decide) (by decide)
theorem okTp : tpT.ok := ⟨okS1, okI0, okI0⟩
theorem okRc (off : Int) (h1 : -1000 ≤ off) (h2 : off ≤ 1000) : (rcV off).ok := ⟨okIA _ h1 h2, okS0, okS2, trivial, okI0⟩
theorem okBt (off : Int) (h1 : -1000 ≤ off) (h2 : off ≤ 1000) : (btV off).ok := ⟨okIA _ h1 h2, okIA _ h1 h2, okI0, okI0, okIA (-1) (by omega) (by omega), okI0, okI0, trivial, okI0, trivial⟩
theorem okFc (off : Int) (h1 : -1000 ≤ off) (h2 : off ≤ 1000) : (fcV off).ok := ⟨okTp, okIA _ h1 h2, ⟨okI0, okS0, okS0, trivial, okI0⟩, okIA 7 (by omega) (by omega), okI0, trivial⟩
theorem e1 : decide (Scan ordOk l4) = true := by decide +kernel
theorem e2 : decide (Scan (onceOk [⟨tpT, 2⟩]) l4) = false := by decide +kernel
theorem e3 : decide (Scan (onceOk [⟨tpT, 4⟩]) l4) = true := by decide +kernel
theorem e4 : decide (Scan ordOk l3) = false := by decide +kernel
theorem e5 : (neededL bs2 [] 2).all (toldP l4) = true := by decide +kernel
theorem e6 : (neededL bs2 [] 3).all (toldP l4) = false := by decide +kernel
theorem e7 : decide (WholeR l4 fs2) = false := by decide +kernel
theorem e8 : decide (WholeR l4 (fs2.take 1)) = true := by decide +kernel
set_option maxHeartbeats 4000000 in
theorem live32_ct {k : PH} : CT Tryz.prog 22 #[] k (fun _ v => v = .bool true) := by
  refine ct_of_body (l := []) Tryz.func22 rfl Tryz.ntmps22 (by simp) (fun _ _ _ _ h => h) fun F hF0 hFm => ?_
  repeat (first | refine cg_seq ?_ | refine cg_region ?_ | refine rg_nil ?_ | refine eg_then ?_ | refine qsp ?_)
  refine rs rfl rfl (loc_det rfl (d_lit (cells := tpT.vs) rfl rfl rfl)) ?_
  refine rb rfl rfl rfl rfl (a_alloc rfl) ?_; intro b1 k1 hb1 hN1 hle1 hk1
  refine rw1 rfl rfl rfl rfl rfl rfl rfl hk1 rfl (.inl hN1) ?_ ?_; (simp [Tp.vs, Mark.vs, OpenT.vs, Gone.vs, Tx.cs, View.cs, Rec.vs, Batch.cs, Who.vs, Pl.vs, Told.vs, Fact.vs, Place.vs, Value.oneCell']); intro k2 ht2 hk2
  have ct := cells_at (vs := tpT.vs) hk2 rfl
  repeat (first | refine cg_seq ?_ | refine cg_region ?_ | refine rg_nil ?_ | refine eg_then ?_)
  refine rs rfl rfl (loc_call_is rfl rfl rfl rfl (one_ct (by decide) (by decide))) ?_
  refine rs rfl rfl (loc_call_is rfl rfl rfl rfl (one_ct (by decide) (by decide))) ?_
  refine rs rfl rfl (loc_call_is rfl rfl rfl rfl (one_ct (by decide) (by decide))) ?_
  refine rs rfl rfl (loc_call_is rfl rfl rfl rfl (one_ct (by decide) (by decide))) ?_
  refine rb rfl rfl rfl rfl (a_slice (cells := l4.flatMap Told.vs) rfl rfl rfl rfl (by kernel_rfl) rfl) ?_; intro b3 k3 hb3 hN3 hle3 hk3
  have hl : Sl tTold k3 (some ⟨b3, 0, none⟩) 4 l4 := sl_flat (xs := l4) hk3 rfl (fun x hx => ⟨rfl, ok4 x hx⟩) (by decide)
  repeat (first | refine cg_seq ?_ | refine cg_region ?_ | refine rg_nil ?_ | refine eg_then ?_ | refine qsp ?_)
  refine rs rfl rfl (loc_det rfl (d_lit (cells := (rcV 1).vs) rfl rfl rfl)) ?_
  refine rb rfl rfl rfl rfl (a_slice (cells := [rcV 1].flatMap Rec.vs) rfl rfl rfl rfl (by kernel_rfl) rfl) ?_; intro b4 k4 hb4 hN4 hle4 hk4
  refine rs rfl rfl (loc_det rfl (d_lit (cells := (btV 1).cs (some ⟨b4, 0, none⟩) 1) rfl rfl rfl)) ?_
  refine rs rfl rfl (loc_det rfl (d_lit (cells := (rcV 2).vs) rfl rfl rfl)) ?_
  refine rb rfl rfl rfl rfl (a_slice (cells := [rcV 2].flatMap Rec.vs) rfl rfl rfl rfl (by kernel_rfl) rfl) ?_; intro b5 k5 hb5 hN5 hle5 hk5
  refine rs rfl rfl (loc_det rfl (d_lit (cells := (btV 2).cs (some ⟨b5, 0, none⟩) 1) rfl rfl rfl)) ?_
  refine rb rfl rfl rfl rfl (a_slice (cells := (btV 1).cs (some ⟨b4, 0, none⟩) 1 ++ (btV 2).cs (some ⟨b5, 0, none⟩) 1) rfl rfl rfl rfl (by kernel_rfl) rfl) ?_; intro b6 k6 hb6 hN6 hle6 hk6
  have r4 : Sl tRec k4 (some ⟨b4, 0, none⟩) 1 [rcV 1] := sl_flat (xs := [rcV 1]) hk4 rfl (fun x hx => ⟨rfl, by simp at hx; subst hx; exact okRc 1 (by decide) (by decide)⟩) (by decide)
  have r5 : Sl tRec k5 (some ⟨b5, 0, none⟩) 1 [rcV 2] := sl_flat (xs := [rcV 2]) hk5 rfl (fun x hx => ⟨rfl, by simp at hx; subst hx; exact okRc 2 (by decide) (by decide)⟩) (by decide)
  have hbs : Sl tBatch k6 (some ⟨b6, 0, none⟩) 2 bs2 := sl_rows (xs := bs2) (css := [(btV 1).cs (some ⟨b4, 0, none⟩) 1, (btV 2).cs (some ⟨b5, 0, none⟩) 1]) hk6 rfl rfl (fun i cs x h1 h2 => by
    match i, h1, h2 with
    | 0, h1, h2 => simp [bs2] at h1 h2; rw [← h1, ← h2]; exact ⟨_, _, rfl, r4.le (hle5.trans hle6), okBt 1 (by decide) (by decide)⟩
    | 1, h1, h2 => simp [bs2] at h1 h2; rw [← h1, ← h2]; exact ⟨_, _, rfl, r5.le hle6, okBt 2 (by decide) (by decide)⟩) (by decide)
  have ct := ct.le (hle3.trans (hle4.trans (hle5.trans hle6)))
  repeat (first | refine cg_seq ?_ | refine cg_region ?_ | refine rg_nil ?_ | refine eg_then ?_ | refine qsp ?_ | refine qsg ?_)
  refine rs rfl rfl (loc_det rfl (d_lit (cells := (fcV 1).vs) rfl rfl rfl)) ?_
  repeat (first | refine qsg ?_)
  refine rs rfl rfl (loc_det rfl (d_lit (cells := (fcV 2).vs) rfl rfl rfl)) ?_
  refine rb rfl rfl rfl rfl (a_slice (cells := fs2.flatMap Fact.vs) rfl rfl rfl rfl (by kernel_rfl) rfl) ?_; intro b7 k7 hb7 hN7 hle7 hk7
  have hfs : Sl tFact k7 (some ⟨b7, 0, none⟩) 2 fs2 := sl_flat (xs := fs2) hk7 rfl (fun x hx => ⟨rfl, by
    simp only [fs2, List.mem_cons, List.not_mem_nil, or_false] at hx
    rcases hx with rfl | rfl <;> exact okFc _ (by decide) (by decide)⟩) (by decide)
  have ct := ct.le hle7
  have hl := hl.le (hle4.trans (hle5.trans (hle6.trans hle7)))
  have hbs := hbs.le hle7
  repeat (first | refine cg_seq ?_ | refine cg_region ?_ | refine rg_nil ?_ | refine eg_then ?_ | refine qsp ?_ | refine qsg ?_)
  refine rv rfl rfl rfl (loc_call rfl rfl rfl rfl slMono32 (audHome_ct tpT hl (by decide))) ?_
  rintro k8 hle8 _ ⟨ah, ch, rfl, hh⟩
  have ct := ct.le hle8
  have hl := hl.le hle8
  have hbs := hbs.le hle8
  have hfs := hfs.le hle8
  have q1 := audOrder_ct hl
  rw [e1] at q1
  repeat (first | refine cg_seq ?_ | refine cg_region ?_ | refine rg_nil ?_ | refine eg_then ?_ | refine qsp ?_)
  refine rs rfl rfl (loc_call_is rfl rfl rfl rfl (q1)) ?_
  repeat (first | refine qsp ?_ | refine qsg ?_)
  refine rs rfl rfl (loc_det rfl (d_lit (cells := (⟨tpT, 2⟩ : Mark).vs) rfl rfl rfl)) ?_
  refine rbg rfl rfl rfl rfl (a_slice (cells := [(⟨tpT, 2⟩ : Mark)].flatMap Mark.vs) rfl rfl rfl rfl (by kernel_rfl) rfl) ?_; intro b9 k9 hb9 hN9 hle9 hk9
  have hm9 : Sl tMark k9 (some ⟨b9, 0, none⟩) 1 [⟨tpT, 2⟩] := sl_flat (xs := [(⟨tpT, 2⟩ : Mark)]) hk9 rfl (fun x hx => ⟨rfl, by simp at hx; subst hx; exact ⟨okTp, okIA 2 (by decide) (by decide)⟩⟩) (by decide)
  have q2 := audOnce_ct (hl.le hle9) hm9
  rw [e2] at q2
  have ct := ct.le hle9
  skip
  refine rs rfl rfl (loc_call_is rfl rfl rfl rfl (q2)) ?_
  repeat (first | refine qsp ?_ | refine qsg ?_)
  refine rs rfl rfl (loc_det rfl (d_lit (cells := (⟨tpT, 4⟩ : Mark).vs) rfl rfl rfl)) ?_
  refine rbg rfl rfl rfl rfl (a_slice (cells := [(⟨tpT, 4⟩ : Mark)].flatMap Mark.vs) rfl rfl rfl rfl (by kernel_rfl) rfl) ?_; intro b10 k10 hb10 hN10 hle10 hk10
  have hm10 : Sl tMark k10 (some ⟨b10, 0, none⟩) 1 [⟨tpT, 4⟩] := sl_flat (xs := [(⟨tpT, 4⟩ : Mark)]) hk10 rfl (fun x hx => ⟨rfl, by simp at hx; subst hx; exact ⟨okTp, okIA 4 (by decide) (by decide)⟩⟩) (by decide)
  have q3 := audOnce_ct (hl.le (hle9.trans hle10)) hm10
  rw [e3] at q3
  skip
  refine rs rfl rfl (loc_call_is rfl rfl rfl rfl (q3)) ?_
  repeat (first | refine qsp ?_)
  refine rs rfl rfl (loc_call_is rfl rfl rfl rfl (one_ct (by decide) (by decide))) ?_
  refine rs rfl rfl (loc_call_is rfl rfl rfl rfl (one_ct (by decide) (by decide))) ?_
  refine rs rfl rfl (loc_call_is rfl rfl rfl rfl (one_ct (by decide) (by decide))) ?_
  refine rbg rfl rfl rfl rfl (a_slice (cells := l3.flatMap Told.vs) rfl rfl rfl rfl (by kernel_rfl) rfl) ?_; intro b11 k11 hb11 hN11 hle11 hk11
  have hl3 : Sl tTold k11 (some ⟨b11, 0, none⟩) 3 l3 := sl_flat (xs := l3) hk11 rfl (fun x hx => ⟨rfl, ok3 x hx⟩) (by decide)
  have q4 := audOrder_ct hl3
  rw [e4] at q4
  have hle12 := hle9.trans (hle10.trans hle11)
  have hl := hl.le hle12
  have hbs := hbs.le hle12
  have hfs := hfs.le hle12
  have hh := hh.le hle12
  skip
  refine rs rfl rfl (loc_call_is rfl rfl rfl rfl (q4)) ?_
  have q5 := audAll_ct 2 hl hbs (sl_none tGone k11) (by decide)
  rw [e5] at q5
  repeat (first | refine qsp ?_)
  refine rs rfl rfl (loc_call_is rfl rfl rfl rfl (q5)) ?_
  have q6 := audAll_ct 3 hl hbs (sl_none tGone k11) (by decide)
  rw [e6] at q6
  repeat (first | refine qsp ?_)
  refine rs rfl rfl (loc_call_is rfl rfl rfl rfl (q6)) ?_
  have q7 := audWhole_ct hl hfs
  rw [e7] at q7
  repeat (first | refine qsp ?_)
  refine rs rfl rfl (loc_call_is rfl rfl rfl rfl (q7)) ?_
  repeat (first | refine qsp ?_)
  refine rs rfl rfl (loc_det rfl (d_pre (i := 1) hfs rfl rfl rfl (by decide))) ?_
  have q8 := audWhole_ct hl (hfs.take 1)
  rw [e8] at q8
  skip
  refine rs rfl rfl (loc_call_is rfl rfl rfl rfl (q8)) ?_
  repeat (first | refine qsp ?_ | refine qsn ?_)
  obtain ⟨bx, ox, cx, rfl, ⟨rfl, _⟩, hcx⟩ := hh.el 1 (homeT (oneP 3)) (by decide +kernel)
  obtain ⟨p0, p1, p2, p3⟩ := Told.parts hcx
  obtain ⟨q0, q1', q2', q3', q4'⟩ := Rec.parts p3
  refine rs rfl rfl (loc_det rfl (d_idx (i := 1) rfl rfl rfl (by decide +kernel))) ?_
  repeat (first | refine qsp ?_ | refine qsl ?_ | refine qsf ?_)
  refine rs rfl rfl (loc_det rfl (d_idx (i := 1) rfl rfl rfl (by decide +kernel))) ?_
  repeat (first | refine qsp ?_ | refine qsl ?_ | refine qsf ?_)
  refine rs rfl rfl (loc_det rfl (d_lit (cells := (⟨.empty, 0, 0⟩ : Tp).vs) rfl rfl rfl)) ?_
  have q9 := audHome_ct ⟨.empty, 0, 0⟩ hl (by decide)
  refine rv rfl rfl rfl (loc_call rfl rfl rfl rfl slMono32 q9) ?_
  rintro k12 hle13 _ ⟨a9, c9, rfl, hh9⟩
  have e9 : (homeP l4 ⟨.empty, 0, 0⟩).length = 0 := by decide +kernel
  rw [e9]
  repeat (first | refine rg_nil ?_ | refine eg_then ?_ | refine qsp ?_ | refine qsn ?_ | refine cg_ret ?_)
  exact eg_return rfl rfl rfl
end Go.Wm
namespace Go.Wm
open Go.RowKit Go.Proofs
attribute [local irreducible] RG CG EG WA Loc Det Alc CT Exit.then Exit.inBlock Code.wp bodyPost
theorem slM {α : Type} {T : Ty α} {l : List α} : ∀ k k' v, Le k k' → (∃ a' c', v = Value.slice a' l.length c' ∧ Sl T k a' c' l) → ∃ a' c', v = Value.slice a' l.length c' ∧ Sl T k' a' c' l := fun k k' v hle ⟨a, c, h1, h2⟩ => ⟨a, c, h1, h2.le hle⟩
set_option maxHeartbeats 1000000 in
theorem hid_ct {k : PH} {a : Option Addr} {c : Nat} {l : List Gone} (b : Batch) (ab : Option Addr) (cb : Nat) (hl : Sl tGone k a c l) :
    CT Tryz.prog 47 #[.agg (b.cs ab cb).toArray, .slice a l.length c] k (fun _ v => v = .bool (l.any (isP b))) := by
  refine ct_of_body (l := [_, _]) Tryz.func47 rfl Tryz.ntmps47 (by simp) (fun _ _ _ _ h => h) fun F hF0 hFm => ?_
  have b1 := hl.cap; have b2 := hl.max; unfold maxLen at b2
  repeat (first | refine cg_seq ?_ | refine cg_region ?_)
  refine rb rfl rfl rfl rfl (a_box rfl rfl) ?_; intro b3 k3 hb3 hN3 hle3 hk3
  have cb3 := cells_at (vs := b.cs ab cb) hk3 rfl
  have hl := hl.le hle3
  repeat (first | refine cg_seq ?_ | refine cg_region ?_ | refine rg_nil ?_ | refine eg_then ?_ | refine qsp ?_ | refine cg_block ?_)
  refine cg_loop (fun (i : Nat) e k' => k' = k3 ∧ i ≤ l.length ∧ (∀ g ∈ l.take i, isP b g = false) ∧ e = [(1, .is (.slice a l.length c)), (2, .is (.pointer (some ⟨b3, 0, none⟩))), (5, .is (.int .i64 (i : Int)))])
    (fun i => l.length - i) 0 ⟨rfl, Nat.zero_le _, by simp, rfl⟩ ⟨rfl, rfl, rfl, trivial⟩ ?_
  rintro i e k1 ⟨rfl, hi, hno, rfl⟩
  repeat (first | refine cg_seq ?_ | refine cg_region ?_ | refine rg_nil ?_ | refine eg_then ?_ | refine qsp ?_ | refine qsn ?_)
  refine cg_cond rfl (fun h => ?_) (fun h => ?_)
  · have hlt : i < l.length := by simpa using h
    obtain ⟨bx, ox, cx, rfl, ⟨rfl, hok⟩, hcx⟩ := hl.el i l[i] (List.getElem?_eq_getElem hlt)
    have hs : CT Tryz.prog 78 #[.agg (b.cs ab cb).toArray, .agg l[i].vs.toArray] k1 (fun _ v => v = .bool (isP b l[i])) := isGone_ct b ab cb l[i]
    repeat (first | refine cg_seq ?_ | refine eg_then ?_ | refine cg_skip ?_ | refine cg_block ?_)
    refine cg_any (by kernel_rfl) rfl ?_
    repeat (first | refine qwp ?_ | refine qwi ?_ | refine qwg ?_)
    refine ws rfl (loc_call_is rfl rfl rfl rfl (hs)) ?_
    repeat (first | (refine wn rfl ?_; refine eg_then ?_))
    cases q : isP b l[i]
    · repeat (first | refine cg_region ?_ | refine rg_nil ?_ | refine eg_then ?_ | refine qsp ?_ | refine qsa ?_ | refine cg_cond_false rfl ?_ | refine cg_skip ?_ | refine eg_in_normal ?_)
      refine eg_again (i + 1) _ ⟨rfl, hlt, fun g hg => ?_, rfl⟩ (by omega) ⟨rfl, rfl, rfl, trivial⟩
      rw [List.take_succ_eq_append_getElem hlt] at hg
      rcases List.mem_append.1 hg with hg | hg
      · exact hno g hg
      · simp at hg; subst hg; exact q
    · repeat (first | refine cg_seq ?_ | refine cg_region ?_ | refine rg_nil ?_ | refine eg_then ?_ | refine qsp ?_ | refine cg_cond_true rfl ?_ | refine cg_ret ?_ | refine eg_then_ret ?_ | refine eg_in_ret ?_)
      refine eg_return rfl rfl ?_
      rw [List.any_eq_true.2 ⟨l[i], List.getElem_mem hlt, q⟩]
  · have hil : i = l.length := by simp at h; omega
    subst hil
    rw [List.take_length] at hno
    repeat (first | refine cg_seq ?_ | refine cg_region ?_ | refine rg_nil ?_ | refine eg_then ?_ | refine qsp ?_ | refine cg_ret ?_ | refine cg_exit ?_ | refine eg_then_exit ?_ | refine eg_in_exit ?_)
    refine eg_return rfl rfl ?_
    rw [List.any_eq_false.2 fun g hg => by rw [hno g hg]; decide]
set_option maxHeartbeats 1000000 in
theorem refShow_ct {k : PH} {a a2 : Option Addr} {c c2 : Nat} {l : List Batch} {gone : List Gone} (to : Int) (hl : Sl tBatch k a c l) (hg : Sl tGone k a2 c2 gone) (hb : l.length ≤ 10000) :
    CT Tryz.prog 14 #[.slice a l.length c, .slice a2 gone.length c2, .int .i64 to] k (fun k' v => ∃ a' c', v = .slice a' (l.filter (showB gone to)).length c' ∧ Sl tBatch k' a' c' (l.filter (showB gone to))) := by
  refine ct_of_body (l := [_, _, _]) Tryz.func14 rfl Tryz.ntmps14 (by simp) slM fun F hF0 hFm => ?_
  have b1 := hl.cap; have b2 := hl.max; unfold maxLen at b2
  repeat (first | refine cg_seq ?_ | refine cg_region ?_ | refine rg_nil ?_ | refine eg_then ?_ | refine qsp ?_ | refine cg_block ?_)
  refine cg_loop (fun (i : Nat) e k' => ∃ v css, Le k k' ∧ Row F.w0.heap.size k' 45 10 v ((l.take i).filter (showB gone to)).length css.flatten ∧ Pieces tBatch k css ((l.take i).filter (showB gone to)) ∧ Apart k v ∧ i ≤ l.length ∧ e = [(0, .is (.slice a l.length c)), (1, .is (.slice a2 gone.length c2)), (2, .is (.int .i64 to)), (7, .is v), (8, .is (.int .i64 (i : Int)))])
    (fun i => l.length - i) 0 ⟨.slice none 0 0, [], Le.refl _, row_nil _ _ _ _, Pieces.nil _ _, apart_nil _ _ _, Nat.zero_le _, rfl⟩ ⟨rfl, rfl, rfl, rfl, rfl, trivial⟩ ?_
  rintro i e k1 ⟨v, css, hle, hrow, hp, hap, hi, rfl⟩
  have hfl := filter_take_len (showB gone to) l i
  repeat (first | refine cg_seq ?_ | refine cg_region ?_ | refine rg_nil ?_ | refine eg_then ?_ | refine qsp ?_ | refine qsn ?_)
  refine cg_cond rfl (fun h => ?_) (fun h => ?_)
  · have hlt : i < l.length := by simpa using h
    obtain ⟨bx, ox, cx, rfl, hrep, hcx⟩ := hl.el i l[i] (List.getElem?_eq_getElem hlt)
    obtain ⟨ra, rc, rfl, hr, hok⟩ := id hrep
    have hcx := hcx.le hle
    obtain ⟨p0, p1, p2, p3, p4, p5, p6, p7, p8, p9⟩ := Batch.parts hcx
    have hcx' := hcx
    have hsu := filter_take_succ (p := showB gone to) hlt
    repeat (first | refine cg_seq ?_ | refine cg_region ?_ | refine eg_then ?_ | refine qsp ?_ | refine qsi ?_ | refine qsl ?_ | refine qsf ?_ | refine cg_skip ?_ | refine cg_block ?_)
    cases q3 : (l[i].ctl == 0)
    · simp at q3
      have hw : showB gone to l[i] = false := by simp [showB, q3]
      repeat (first | refine cg_region ?_ | refine rg_nil ?_ | refine eg_then ?_ | refine qsp ?_ | refine qsa ?_ | refine qso ?_ | refine cg_cond_false rfl ?_ | refine cg_skip ?_ | refine eg_in_normal ?_)
      refine eg_again (i + 1) _ ⟨v, css, hle, ?_, ?_, hap, hlt, rfl⟩ (by omega) ⟨rfl, rfl, rfl, rfl, rfl, trivial⟩
      · rw [hsu, if_neg (by rw [hw]; decide), List.append_nil]; exact hrow
      · rw [hsu, if_neg (by rw [hw]; decide), List.append_nil]; exact hp
    simp at q3
    repeat (first | refine qsp ?_ | refine qsi ?_ | refine qsl ?_ | refine qsf ?_)
    cases q4 : decide (l[i].last < to)
    · have hw : showB gone to l[i] = false := by simp [showB, q4]
      repeat (first | refine cg_region ?_ | refine rg_nil ?_ | refine eg_then ?_ | refine qsp ?_ | refine qsa ?_ | refine qso ?_ | refine cg_cond_false rfl ?_ | refine cg_skip ?_ | refine eg_in_normal ?_)
      refine eg_again (i + 1) _ ⟨v, css, hle, ?_, ?_, hap, hlt, rfl⟩ (by omega) ⟨rfl, rfl, rfl, rfl, rfl, trivial⟩
      · rw [hsu, if_neg (by rw [hw]; decide), List.append_nil]; exact hrow
      · rw [hsu, if_neg (by rw [hw]; decide), List.append_nil]; exact hp
    repeat (first | refine qsp ?_ | refine qsi ?_ | refine qsg ?_)
    refine rs rfl rfl (loc_call_is rfl rfl rfl rfl (hid_ct l[i] ra rc (hg.le hle))) ?_
    repeat (first | refine rg_nil ?_ | refine eg_then ?_ | refine qsp ?_)
    cases q5 : gone.any (isP l[i])
    rotate_left
    · have hw : showB gone to l[i] = false := by simp [showB, q5]
      repeat (first | refine cg_region ?_ | refine rg_nil ?_ | refine eg_then ?_ | refine qsp ?_ | refine qsa ?_ | refine cg_cond_false rfl ?_ | refine cg_skip ?_ | refine eg_in_normal ?_)
      refine eg_again (i + 1) _ ⟨v, css, hle, ?_, ?_, hap, hlt, rfl⟩ (by omega) ⟨rfl, rfl, rfl, rfl, rfl, trivial⟩
      · rw [hsu, if_neg (by rw [hw]; decide), List.append_nil]; exact hrow
      · rw [hsu, if_neg (by rw [hw]; decide), List.append_nil]; exact hp
    have hw : showB gone to l[i] = true := by simp [showB, q3, q4, q5]
    rw [if_pos hw] at hsu
    repeat (first | refine cg_region ?_ | refine qsp ?_ | refine qsi ?_ | refine qsg ?_ | refine cg_cond_true rfl ?_)
    refine rb rfl rfl rfl rfl (a_slice (cells := l[i].cs ra rc) rfl rfl rfl rfl (by kernel_rfl) rfl) ?_
    intro b11 k11 hb11 hN11 hle11 hk11
    have c11 := cells_at (vs := l[i].cs ra rc) hk11 rfl
    refine rap rfl rfl rfl rfl rfl rfl rfl (hrow.le hle11) c11 rfl (by simp [Batch.cs, Value.oneCell']) rfl rfl (by unfold maxLen; omega) (by omega) ?_
    intro v' k12 hrow12 hturn
    obtain ⟨hle12, hap12⟩ := hturn k (hle.trans hle11) hap
    repeat (first | refine cg_region ?_ | refine rg_nil ?_ | refine eg_then ?_ | refine qsp ?_ | refine qsa ?_ | refine eg_in_normal ?_)
    refine eg_again (i + 1) _ ⟨v', css ++ [l[i].cs ra rc], hle12, ?_, ?_, hap12, hlt, rfl⟩ (by omega) ⟨rfl, rfl, rfl, rfl, rfl, trivial⟩
    · rw [hsu, List.length_append, List.flatten_append]
      simpa using hrow12
    · rw [hsu]
      exact hp.append (Pieces.one hrep)
  · have hil : i = l.length := by simp at h; omega
    rw [hil, List.take_length] at hrow hp
    obtain ⟨al, cl, rfl, hL⟩ := Row.sls (T := tBatch) hrow (hp.le hle)
    repeat (first | refine cg_seq ?_ | refine cg_region ?_ | refine rg_nil ?_ | refine eg_then ?_ | refine qsp ?_ | refine cg_ret ?_ | refine cg_exit ?_ | refine eg_then_exit ?_ | refine eg_in_exit ?_)
    exact eg_return rfl rfl ⟨al, cl, rfl, hL⟩
end Go.Wm
namespace Go.Wm
open Go.RowKit Go.Proofs
attribute [local irreducible] RG CG EG WA Loc Det Alc CT Exit.then Exit.inBlock Code.wp bodyPost
set_option maxHeartbeats 400000 in
theorem needed_ct {k : PH} {a : Option Addr} {c : Nat} {l : List Rec} {i : Nat} (hl : Sl tRec k a c l) (hi : i < l.length) :
    CT Tryz.prog 59 #[.slice a l.length c, .int .i64 (i : Int)] k (fun _ v => v = .bool (neededP l[i] (l.drop (i + 1)))) := by
  refine ct_of_body (l := [_, _]) Tryz.func59 rfl Tryz.ntmps59 (by simp) (fun _ _ _ _ h => h) fun F hF0 hFm => ?_
  have b1 := hl.cap; have b2 := hl.max; unfold maxLen at b2
  obtain ⟨r, hr⟩ : ∃ r, l[i] = r := ⟨_, rfl⟩
  obtain ⟨bx, ox, cx, rfl, ⟨rfl, hok⟩, hcx⟩ := hl.el i l[i] (List.getElem?_eq_getElem hi)
  obtain ⟨p0, p1, p2, p3, p4⟩ := Rec.parts hcx
  rw [hr] at p0 p1 p2 p3 p4 ⊢
  repeat (first | refine cg_seq ?_ | refine cg_region ?_ | refine rg_nil ?_ | refine eg_then ?_ | refine qsp ?_ | refine qsi ?_ | refine qsl ?_ | refine qsf ?_)
  refine cg_cond rfl (fun h => ?_) (fun h => ?_)
  · repeat (first | refine cg_seq ?_ | refine cg_region ?_ | refine rg_nil ?_ | refine eg_then ?_ | refine qsp ?_ | refine cg_ret ?_ | refine eg_then_ret ?_)
    refine eg_return rfl rfl ?_
    have : r.key = ⟨#[]⟩ := by simpa using h
    simp [neededP, this]
  · have hne : ¬ r.key = ⟨#[]⟩ := by simpa using h
    repeat (first | refine cg_seq ?_ | refine cg_region ?_ | refine rg_nil ?_ | refine eg_then ?_ | refine qsp ?_ | refine qsa ?_ | refine cg_skip ?_ | refine cg_block ?_)
    refine cg_loop (fun (j : Nat) e k' => k' = k ∧ i < j ∧ j ≤ l.length ∧ (∀ q, (h : q < l.length) → i < q → q < j → ¬ l[q].key = r.key) ∧ e = [(0, .is (.slice (some ⟨bx, ox, none⟩) l.length c)), (1, .is (.int .i64 (i : Int))), (5, .is (.int .i64 (j : Int)))])
      (fun j => l.length - j) (i + 1) ⟨rfl, by omega, hi, fun q _ h1 h2 => by omega, rfl⟩ ⟨rfl, rfl, rfl, trivial⟩ ?_
    rintro j e k1 ⟨rfl, hij, hj, hno, rfl⟩
    repeat (first | refine cg_seq ?_ | refine cg_region ?_ | refine rg_nil ?_ | refine eg_then ?_ | refine qsp ?_ | refine qsn ?_)
    refine cg_cond rfl (fun h => ?_) (fun h => ?_)
    · have hlt : j < l.length := by simpa using h
      obtain ⟨by', oy, cy, hbo, ⟨rfl, _⟩, hcy⟩ := hl.el j l[j] (List.getElem?_eq_getElem hlt)
      cases hbo
      obtain ⟨s0, s1, s2, s3, s4⟩ := Rec.parts hcy
      repeat (first | refine cg_seq ?_ | refine eg_then ?_ | refine cg_skip ?_ | refine cg_block ?_)
      refine cg_any (by kernel_rfl) rfl ?_
      repeat (first | refine qwp ?_ | refine qwi ?_ | refine qwl ?_ | refine qwf ?_ | (refine wn rfl ?_; refine eg_then ?_))
      refine cg_cond rfl (fun h => ?_) (fun h => ?_)
      · repeat (first | refine cg_seq ?_ | refine cg_region ?_ | refine rg_nil ?_ | refine eg_then ?_ | refine qsp ?_ | refine cg_ret ?_ | refine eg_then_ret ?_ | refine eg_in_ret ?_)
        refine eg_return rfl rfl ?_
        have hk : l[j].key = r.key := by simpa using h
        have : (l.drop (i + 1)).any (fun x => decide (x.key = r.key)) = true := by
          rw [List.any_eq_true]
          refine ⟨l[j], ?_, by simp [hk]⟩
          rw [List.mem_drop_iff_getElem]
          exact ⟨j - (i + 1), by omega, by congr 1; omega⟩
        simp [neededP, hne, this]
      · repeat (first | refine cg_region ?_ | refine rg_nil ?_ | refine eg_then ?_ | refine qsp ?_ | refine qsa ?_ | refine cg_skip ?_ | refine eg_in_normal ?_)
        refine eg_again (j + 1) _ ⟨rfl, by omega, hlt, fun q hq h1 h2 => ?_, rfl⟩ (by omega) ⟨rfl, rfl, rfl, trivial⟩
        by_cases e : q = j
        · subst e; simpa using h
        · exact hno q hq h1 (by omega)
    · repeat (first | refine cg_seq ?_ | refine cg_region ?_ | refine rg_nil ?_ | refine eg_then ?_ | refine qsp ?_ | refine qsi ?_ | refine qsl ?_ | refine qsf ?_ | refine cg_ret ?_ | refine cg_exit ?_ | refine eg_then_exit ?_ | refine eg_in_exit ?_)
      refine eg_return rfl rfl ?_
      have hjl : j = l.length := by simp at h; omega
      have : (l.drop (i + 1)).any (fun x => decide (x.key = r.key)) = false := by
        rw [List.any_eq_false]
        intro x hx
        rw [List.mem_drop_iff_getElem] at hx
        obtain ⟨q, hq, rfl⟩ := hx
        simpa using hno (i + 1 + q) (by omega) (by omega) (by omega)
      simp [neededP, hne, this]
set_option maxHeartbeats 1000000 in
theorem recs_ct {k : PH} {a : Option Addr} {c : Nat} {l : List Batch} (hl : Sl tBatch k a c l) (h100 : ∀ b ∈ l, b.recs.length ≤ 100) (hb : l.length ≤ 10000) :
    CT Tryz.prog 58 #[.slice a l.length c] k (fun k' v => ∃ a' c', v = .slice a' (recsAll l).length c' ∧ Sl tRec k' a' c' (recsAll l)) := by
  refine ct_of_body (l := [_]) Tryz.func58 rfl Tryz.ntmps58 (by simp) (fun k k' v hle ⟨a, c, h1, h2⟩ => ⟨a, c, h1, h2.le hle⟩) fun F hF0 hFm => ?_
  have b1 := hl.cap; have b2 := hl.max; unfold maxLen at b2
  repeat (first | refine cg_seq ?_ | refine cg_region ?_ | refine rg_nil ?_ | refine eg_then ?_ | refine qsp ?_ | refine cg_block ?_)
  refine cg_loop (fun (i : Nat) e k' => ∃ v, Le k k' ∧ Row F.w0.heap.size k' 61 5 v (recsAll (l.take i)).length ((recsAll (l.take i)).flatMap Rec.vs) ∧ Apart k v ∧ i ≤ l.length ∧ e = [(0, .is (.slice a l.length c)), (3, .is v), (4, .is (.int .i64 (i : Int)))])
    (fun i => l.length - i) 0 ⟨.slice none 0 0, Le.refl _, row_nil _ _ _ _, apart_nil _ _ _, Nat.zero_le _, rfl⟩ ⟨rfl, rfl, rfl, trivial⟩ ?_
  rintro i e k1 ⟨v, hle, hrow, hap, hi, rfl⟩
  repeat (first | refine cg_seq ?_ | refine cg_region ?_ | refine rg_nil ?_ | refine eg_then ?_ | refine qsp ?_ | refine qsn ?_)
  refine cg_cond rfl (fun h => ?_) (fun h => ?_)
  · have hlt : i < l.length := by simpa using h
    obtain ⟨bx, ox, cx, rfl, ⟨ra, rc, rfl, hr, hok⟩, hcx⟩ := (hl.le hle).el i l[i] (List.getElem?_eq_getElem hlt)
    obtain ⟨p0, p1, p2, p3, p4, p5, p6, p7, p8, p9⟩ := Batch.parts hcx
    have hlen : (recsAll (l.take i)).length ≤ 100 * (l.take i).length := recsP_len fun b hb => h100 b (List.mem_of_mem_take hb)
    rw [List.length_take] at hlen
    have h100i := h100 l[i] (List.getElem_mem hlt)
    repeat (first | refine cg_seq ?_ | refine cg_region ?_ | refine eg_then ?_ | refine qsp ?_ | refine qsi ?_ | refine qsl ?_ | refine qsf ?_ | refine cg_skip ?_ | refine cg_block ?_)
    refine raps rfl rfl rfl rfl rfl rfl rfl hrow hr Rec.one rfl rfl (by unfold maxLen; omega) (by omega) ?_
    intro v' k2 css hp hrow2 hturn
    obtain ⟨hle2, hap2⟩ := hturn k hle hap
    rw [pieces_rec hp, ← List.flatMap_append, ← List.length_append, ← recsP_succ hlt] at hrow2
    repeat (first | refine cg_region ?_ | refine rg_nil ?_ | refine eg_then ?_ | refine qsp ?_ | refine qsa ?_ | refine eg_in_normal ?_)
    exact eg_again (i + 1) _ ⟨v', hle2, hrow2, hap2, hlt, rfl⟩ (by omega) ⟨rfl, rfl, rfl, trivial⟩
  · repeat (first | refine cg_seq ?_ | refine cg_region ?_ | refine rg_nil ?_ | refine eg_then ?_ | refine qsp ?_ | refine cg_ret ?_ | refine cg_exit ?_ | refine eg_then_exit ?_ | refine eg_in_exit ?_)
    have hil : i = l.length := by simp at h; omega
    rw [hil, List.take_length] at hrow
    obtain ⟨ai, ci, rfl, hsl⟩ := Row.sl (T := tRec) hrow (fun x hx => ⟨rfl, by
      simp only [recsAll, List.mem_flatMap] at hx
      obtain ⟨b, hb, hx⟩ := hx
      obtain ⟨j, hj, rfl⟩ := List.getElem_of_mem hb
      obtain ⟨_, _, _, _, ⟨_, _, _, hr, _⟩, _⟩ := hl.el j l[j] (List.getElem?_eq_getElem hj)
      obtain ⟨q, hq, rfl⟩ := List.getElem_of_mem hx
      obtain ⟨_, _, _, _, ⟨_, h⟩, _⟩ := hr.el q l[j].recs[q] (List.getElem?_eq_getElem hq)
      exact h⟩)
    refine eg_return rfl rfl ⟨ai, ci, rfl, hsl⟩
set_option maxHeartbeats 1000000 in
theorem neededAll_ct {k : PH} {a a2 : Option Addr} {c c2 : Nat} {bs : List Batch} {gone : List Gone} (to : Int) (hl : Sl tBatch k a c bs) (hg : Sl tGone k a2 c2 gone) (h100 : ∀ b ∈ bs, b.recs.length ≤ 100) (hb : bs.length ≤ 10000) :
    CT Tryz.prog 32 #[.slice a bs.length c, .slice a2 gone.length c2, .int .i64 to] k (fun k' v => ∃ a' c', v = .slice a' (neededL bs gone to).length c' ∧ Sl tRec k' a' c' (neededL bs gone to)) := by
  refine ct_of_body (l := [_, _, _]) Tryz.func32 rfl Tryz.ntmps32 (by simp) (fun k k' v hle ⟨a, c, h1, h2⟩ => ⟨a, c, h1, h2.le hle⟩) fun F hF0 hFm => ?_
  have b1 := hl.cap; have b2 := hl.max; unfold maxLen at b2
  repeat (first | refine cg_seq ?_ | refine cg_region ?_ | refine rg_nil ?_ | refine eg_then ?_ | refine qsp ?_)
  refine rv rfl rfl rfl (loc_call rfl rfl rfl rfl slMono32 (refShow_ct to hl hg hb)) ?_
  rintro k1 hle1 _ ⟨a3, c3, rfl, hs3⟩
  have hfl : (bs.filter (showB gone to)).length ≤ bs.length := List.length_filter_le _ _
  have hf100 : ∀ b ∈ bs.filter (showB gone to), b.recs.length ≤ 100 := fun b hb => h100 b (List.mem_filter.1 hb).1
  refine rv rfl rfl rfl (loc_call rfl rfl rfl rfl slMono32 (recs_ct hs3 hf100 (by omega))) ?_
  rintro k2 hle2 _ ⟨a4, c4, rfl, hs4⟩
  have hlen := recsP_len hf100
  obtain ⟨l, hl0⟩ : ∃ l, recsAll (bs.filter (showB gone to)) = l := ⟨_, rfl⟩
  unfold neededL
  rw [hl0] at hs4 hlen ⊢
  repeat (first | refine cg_seq ?_ | refine cg_region ?_ | refine rg_nil ?_ | refine eg_then ?_ | refine qsp ?_ | refine cg_block ?_)
  refine cg_loop (fun (i : Nat) e k' => ∃ v, Le k2 k' ∧ Row F.w0.heap.size k' 61 5 v (nd l i).length ((nd l i).flatMap Rec.vs) ∧ Apart k2 v ∧ i ≤ l.length ∧ e = [(7, .is (.slice a4 l.length c4)), (8, .is v), (9, .is (.int .i64 (i : Int)))])
    (fun i => l.length - i) 0 ⟨.slice none 0 0, Le.refl _, row_nil _ _ _ _, apart_nil _ _ _, Nat.zero_le _, rfl⟩ ⟨rfl, rfl, rfl, trivial⟩ ?_
  rintro i e k3 ⟨v, hle, hrow, hap, hi, rfl⟩
  repeat (first | refine cg_seq ?_ | refine cg_region ?_ | refine rg_nil ?_ | refine eg_then ?_ | refine qsp ?_ | refine qsn ?_)
  refine cg_cond rfl (fun h => ?_) (fun h => ?_)
  · have hlt : i < l.length := by simpa using h
    obtain ⟨bx, ox, cx, rfl, ⟨rfl, hok⟩, hcx⟩ := (hs4.le hle).el i l[i] (List.getElem?_eq_getElem hlt)
    have hnl := nd_len l i
    repeat (first | refine cg_seq ?_ | refine cg_region ?_ | refine eg_then ?_ | refine qsp ?_ | refine cg_skip ?_ | refine cg_block ?_)
    refine rs rfl rfl (loc_call_is rfl rfl rfl rfl (needed_ct (hs4.le hle) hlt)) ?_
    repeat (first | refine rg_nil ?_ | refine eg_then ?_)
    cases q : neededP l[i] (l.drop (i + 1))
    · repeat (first | refine cg_region ?_ | refine rg_nil ?_ | refine eg_then ?_ | refine qsp ?_ | refine qsa ?_ | refine cg_cond_false rfl ?_ | refine cg_skip ?_ | refine eg_in_normal ?_)
      exact eg_again (i + 1) _ ⟨v, hle, by rw [nd_succ hlt, q]; simpa using hrow, hap, hlt, rfl⟩ (by omega) ⟨rfl, rfl, rfl, trivial⟩
    · repeat (first | refine cg_region ?_ | refine qsp ?_ | refine qsi ?_ | refine qsg ?_ | refine cg_cond_true rfl ?_)
      refine rb rfl rfl rfl rfl (a_slice rfl rfl rfl rfl (by kernel_rfl) rfl) ?_; intro b7 k7 hb7 hN7 hle7 hk7
      have c7 := cells_at (vs := l[i].vs) hk7 rfl
      refine rap rfl rfl rfl rfl rfl rfl rfl (hrow.le hle7) c7 rfl (by simp [Rec.vs, Value.oneCell']) rfl rfl (by unfold maxLen; omega) (by omega) ?_
      intro v' k8 hrow8 hturn
      obtain ⟨hle8, hap8⟩ := hturn k2 (hle.trans hle7) hap
      repeat (first | refine cg_region ?_ | refine rg_nil ?_ | refine eg_then ?_ | refine qsp ?_ | refine qsa ?_ | refine eg_in_normal ?_)
      refine eg_again (i + 1) _ ⟨v', hle8, ?_, hap8, hlt, rfl⟩ (by omega) ⟨rfl, rfl, rfl, trivial⟩
      rw [nd_succ hlt, q, List.flatMap_append, List.length_append]
      simpa using hrow8
  · repeat (first | refine cg_seq ?_ | refine cg_region ?_ | refine rg_nil ?_ | refine eg_then ?_ | refine qsp ?_ | refine cg_ret ?_ | refine cg_exit ?_ | refine eg_then_exit ?_ | refine eg_in_exit ?_)
    have hil : i = l.length := by simp at h; omega
    rw [hil] at hrow
    obtain ⟨ai, ci, rfl, hsl⟩ := Row.sl (T := tRec) hrow (fun x hx => ⟨rfl, by
      obtain ⟨q, hq, rfl⟩ := List.getElem_of_mem (nd_mem hx)
      obtain ⟨_, _, _, _, ⟨_, h⟩, _⟩ := hs4.el q l[q] (List.getElem?_eq_getElem hq)
      exact h⟩)
    refine eg_return rfl rfl ⟨ai, ci, rfl, hsl⟩
end Go.Wm
namespace Go.Wm
open Go.RowKit
/-- The low 16 bits. -/
def low16 (x : Int) : Nat := (BitVec.ofInt 64 x &&& BitVec.ofInt 64 65535).toNat
theorem low16_le (x : Int) : low16 x ≤ 65535 := by
  unfold low16
  rw [BitVec.toNat_and]
  exact Nat.and_le_right
section
variable {P : Program} {o : Oper} {e : Env} {k : PH} {t t' : TypeId} {x y : Operand}
theorem d_rem {a b : Nat} (hop : o.op = .binOp .rem t x y t') (hx : opv e x = some (.int .i64 (a : Int))) (hy : opv e y = some (.int .i64 (b : Int))) (hb : 0 < b) : Det P e k o (.int .i64 ((a % b : Nat) : Int)) := by
  intro ev w hev _
  rw [hop] at hev
  have e1 := hev x (by simp [Op.operands]) _ hx
  have e2 := hev y (by simp [Op.operands]) _ hy
  have h0 : ¬ (b : Int) = 0 := by omega
  have h2 : ((a : Int).tmod (b : Int)) = ((a % b : Nat) : Int) := rfl
  simp only [execOp, hop, e1, e2, eqGuard, binOp, Op.intDiv, h0, if_false, h2]
  simp
theorem d_and16 {a : Int} (hop : o.op = .binOp .and t x y t') (hx : opv e x = some (.int .i64 a)) (hy : opv e y = some (.int .i64 65535)) : Det P e k o (.int .i64 ((low16 a : Nat) : Int)) := by
  intro ev w hev _
  rw [hop] at hev
  have e1 := hev x (by simp [Op.operands]) _ hx
  have e2 := hev y (by simp [Op.operands]) _ hy
  have h3 := low16_le a
  have h4 : IntKind.i64.wrap ((low16 a : Nat) : Int) = ((low16 a : Nat) : Int) := by rw [IntKind.wrap_i64]; omega
  have h5 : IntKind.i64.wrap (((BitVec.ofInt 64 a &&& BitVec.ofInt 64 65535).toNat : Nat) : Int) = ((low16 a : Nat) : Int) := h4
  have h6 : (Op.intBits .and .i64 a 65535).run P w = .ok (.int .i64 ((low16 a : Nat) : Int)) w := by
    show Result.ok (Value.int .i64 (IntKind.i64.wrap (((BitVec.ofInt 64 a &&& BitVec.ofInt 64 65535).toNat : Nat) : Int))) w = _
    rw [h5]
  simp [execOp, hop, e1, e2, eqGuard, binOp, h6]
end
end Go.Wm
namespace Go.Wm
open Go.RowKit Go.Proofs
attribute [local irreducible] RG CG EG WA Loc Det Alc CT Exit.then Exit.inBlock Code.wp bodyPost
theorem short_one {s : List Batch} {n : Nat} (h : s.length * n ≤ reachBytes ∧ ∀ x ∈ s, x.small) : ∀ b ∈ s, Short b := fun b hb r hr => by
  have h1 := h.2 b hb
  unfold Batch.small at h1
  have h2 := h1.2.2.2.2.2.2.2.2.2.2 r hr
  exact ⟨h2.2.1, h2.2.2.1⟩
end Go.Wm
-- cut by zcut
namespace Go.Wm
open Go.RowKit Go.Proofs
attribute [local irreducible] RG CG EG WA Loc Det Alc CT Exit.then Exit.inBlock Code.wp bodyPost
theorem of_few {bs : List Batch} {n : Nat} (hb : bs.length ≤ n) : (ofT bs).openV.length ≤ n ∧ (ofT bs).gone.length ≤ n ∧ (ofT bs).done.length ≤ n := by
  have h := of_size bs
  unfold sizeT at h
  omega
end Go.Wm
-- cut by zcut
namespace Go.Wm
open Go.RowKit Go.Proofs
attribute [local irreducible] RG CG EG WA Loc Det Alc CT Exit.then Exit.inBlock Code.wp bodyPost
structure StepF (t : Tx) (b : Batch) (u : Tx) : Prop where
  o : u.openV.length ≤ t.openV.length + 1
  g : u.gone.length ≤ t.gone.length + 1
  d : u.done.length ≤ t.done.length + 1
  g' : t.gone.length ≤ u.gone.length
  d' : t.done.length ≤ u.done.length
  gt : u.gone.take t.gone.length = t.gone
  dt : u.done.take t.done.length = t.done
  sz : sizeT u = sizeT t ∨ (sizeT u = sizeT t + 1 ∧ b.ctl = 0 ∧ b.txn = true ∧ u.openV.length = t.openV.length + 1)
  none : b.txn = false → u = t
  ok : txP u = true
theorem stepF {t : Tx} {b : Batch} (h : putErr t b = 0) : StepF t b (putT t b) := by
  obtain ⟨h1, h2, h3⟩ := putErr_iff.1 h
  have f := chk_form h2
  have hok := put_ok h
  rcases put_len t b with ⟨e, _⟩ | ⟨c0, ct, th, e⟩ | ⟨c0, th, e⟩
  · rw [e] at hok ⊢
    exact ⟨by omega, by omega, by omega, by omega, by omega, List.take_length, List.take_length, .inl rfl, fun _ => rfl, hok⟩
  · rw [e] at hok ⊢
    have l1 := len_opens t b
    have l2 : (opensT t b).gone = t.gone := rfl
    have l3 : (opensT t b).done = t.done := rfl
    exact ⟨by omega, by rw [l2]; omega, by rw [l3]; omega, by rw [l2]; omega, by rw [l3]; omega, by rw [l2]; exact List.take_length, by rw [l3]; exact List.take_length, .inr ⟨by unfold sizeT; rw [l1, l2, l3]; omega, c0, ct, l1⟩, fun hn => (by rw [ct] at hn; cases hn), hok⟩
  · have l1 := len_less th
    have hno : b.txn = false → putT t b = t := fun hn => by rw [(f.ctl c0).2.2.2.1] at hn; cases hn
    rcases e with e | e
    · rw [e] at hok hno ⊢
      refine ⟨?_, ?_, ?_, ?_, ?_, ?_, ?_, .inl ?_, hno, hok⟩
      · show (lessT t b).length ≤ _; omega
      · show (t.gone ++ [goneOf t b]).length ≤ _; simp
      · show t.done.length ≤ _; omega
      · show _ ≤ (t.gone ++ [goneOf t b]).length; simp
      · show _ ≤ t.done.length; omega
      · show (t.gone ++ [goneOf t b]).take _ = _; simp
      · exact List.take_length
      · show (lessT t b).length + (t.gone ++ [goneOf t b]).length + t.done.length = _
        unfold sizeT; simp; omega
    · rw [e] at hok hno ⊢
      refine ⟨?_, ?_, ?_, ?_, ?_, ?_, ?_, .inl ?_, hno, hok⟩
      · show (lessT t b).length ≤ _; omega
      · show t.gone.length ≤ _; omega
      · show (t.done ++ [goneOf t b]).length ≤ _; simp
      · show _ ≤ t.gone.length; omega
      · show _ ≤ (t.done ++ [goneOf t b]).length; simp
      · exact List.take_length
      · show (t.done ++ [goneOf t b]).take _ = _; simp
      · show (lessT t b).length + t.gone.length + (t.done ++ [goneOf t b]).length = _
        unfold sizeT; simp; omega
end Go.Wm
-- cut by zcut

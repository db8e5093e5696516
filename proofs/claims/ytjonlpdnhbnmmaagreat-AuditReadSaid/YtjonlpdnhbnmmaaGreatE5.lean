/-
  The walk of AuditRead. Conditions: that what is handed in reads as data.
-/
import Derived.Test.YtjonlpdnhbnmmaaGreatU1
import Derived.Test.YtjonlpdnhbnmmaaGreatU3
import Derived.Test.YtjonlpdnhbnmmaaGreatU5
import Derived.Test.YtjonlpdnhbnmmaaGreatU6
import Derived.Test.YtjonlpdnhbnmmaaGreatCoA
import Derived.Test.YtjonlpdnhbnmmaaGreatU0
import Derived.Test.YtjonlpdnhbnmmaaGreatE4
set_option linter.all false
namespace Go.Wm
open Go.RowKit Go.Proofs
attribute [local irreducible] RG CG EG WA Loc Det Alc CT Exit.then Exit.inBlock Code.wp bodyPost
def tpT : Tp := ⟨⟨#[116]⟩, 0, 0⟩
def l4 : List Told := [oneP 1, oneP 3, oneP 1, oneP 4]
def l3 : List Told := [oneP 1, oneP 3, oneP 2]
def rcV (off : Int) : Rec := ⟨off, .empty, ⟨#[118]⟩, false, 0⟩
def btV (off : Int) : Batch := ⟨off, off, 0, 0, -1, 0, 0, false, 0, [rcV off]⟩
def bs2 : List Batch := [btV 1, btV 2]
def fcV (off : Int) : Fact := ⟨tpT, off, ⟨0, .empty, .empty, false, 0⟩, 7, 0, true⟩
def fs2 : List Fact := [fcV 1, fcV 2]
instance (n : Int) : Decidable (I64 n) := by unfold I64; infer_instance
theorem okIA (n : Int) (h1 : -1000 ≤ n) (h2 : n ≤ 1000) : I64 n := ⟨by omega, by omega⟩
theorem okS0 : ByteArray.empty.size ≤ maxLen := by decide
theorem okS1 : (⟨#[116]⟩ : ByteArray).size ≤ maxLen := by decide
theorem okS2 : (⟨#[118]⟩ : ByteArray).size ≤ maxLen := by decide
theorem okI0 : I64 0 := by decide
theorem okOne (off : Int) (h1 : -900 ≤ off) (h2 : off ≤ 900) : (oneP off).ok :=
  ⟨⟨okS1, okI0, okI0⟩, okIA off (by omega) (by omega), okIA (off + 10) (by omega) (by omega), okIA off (by omega) (by omega), okS0, okS2, trivial, okI0⟩
theorem ok4 : ∀ x ∈ l4, x.ok := by
  intro x hx
  simp only [l4, List.mem_cons, List.not_mem_nil, or_false] at hx
  rcases hx with rfl | rfl | rfl | rfl <;> exact okOne _ (by decide) (by decide)
theorem ok3 : ∀ x ∈ l3, x.ok := by
  intro x hx
  simp only [l3, List.mem_cons, List.not_mem_nil, or_false] at hx
  rcases hx with rfl | rfl | rfl <;> exact okOne _ (by decide) (by decide)
theorem okTp : tpT.ok := ⟨okS1, okI0, okI0⟩
theorem okRc (off : Int) (h1 : -1000 ≤ off) (h2 : off ≤ 1000) : (rcV off).ok := ⟨okIA _ h1 h2, okS0, okS2, trivial, okI0⟩
theorem okBt (off : Int) (h1 : -1000 ≤ off) (h2 : off ≤ 1000) : (btV off).ok := ⟨okIA _ h1 h2, okIA _ h1 h2, okI0, okI0, okIA (-1) (by omega) (by omega), okI0, okI0, trivial, okI0, trivial⟩
theorem okFc (off : Int) (h1 : -1000 ≤ off) (h2 : off ≤ 1000) : (fcV off).ok := ⟨okTp, okIA _ h1 h2, ⟨okI0, okS0, okS0, trivial, okI0⟩, okIA 7 (by omega) (by omega), okI0, trivial⟩
theorem e1 : decide (Scan ordOk l4) = true := by decide +kernel
theorem e2 : decide (Scan (onceOk [⟨tpT, 2⟩]) l4) = false := by decide +kernel
theorem e3 : decide (Scan (onceOk [⟨tpT, 4⟩]) l4) = true := by decide +kernel
theorem e4 : decide (Scan ordOk l3) = false := by decide +kernel
theorem e5 : (neededL bs2 [] 2).all (toldP l4) = true := by decide +kernel
theorem e6 : (neededL bs2 [] 3).all (toldP l4) = false := by decide +kernel
theorem e7 : decide (WholeR l4 fs2) = false := by decide +kernel
theorem e8 : decide (WholeR l4 (fs2.take 1)) = true := by decide +kernel
set_option maxHeartbeats 4000000 in
theorem live32_ct {k : PH} : CT Tryz.prog 22 #[] k (fun _ v => v = .bool true) := by
  refine ct_of_body (l := []) Tryz.func22 rfl Tryz.ntmps22 (by simp) (fun _ _ _ _ h => h) fun F hF0 hFm => ?_
  repeat (first | refine cg_seq ?_ | refine cg_region ?_ | refine rg_nil ?_ | refine eg_then ?_ | refine qsp ?_)
  refine rs rfl rfl (loc_det rfl (d_lit (cells := tpT.vs) rfl rfl rfl)) ?_
  refine rb rfl rfl rfl rfl (a_alloc rfl) ?_; intro b1 k1 hb1 hN1 hle1 hk1
  refine rw1 rfl rfl rfl rfl rfl rfl rfl hk1 rfl (.inl hN1) ?_ ?_; (simp [Tp.vs, Mark.vs, OpenT.vs, Gone.vs, Tx.cs, View.cs, Rec.vs, Batch.cs, Who.vs, Pl.vs, Told.vs, Fact.vs, Place.vs, Value.oneCell']); intro k2 ht2 hk2
  have ct := cells_at (vs := tpT.vs) hk2 rfl
  repeat (first | refine cg_seq ?_ | refine cg_region ?_ | refine rg_nil ?_ | refine eg_then ?_)
  refine rs rfl rfl (loc_call_is rfl rfl rfl rfl (one_ct (by decide) (by decide))) ?_
  refine rs rfl rfl (loc_call_is rfl rfl rfl rfl (one_ct (by decide) (by decide))) ?_
  refine rs rfl rfl (loc_call_is rfl rfl rfl rfl (one_ct (by decide) (by decide))) ?_
  refine rs rfl rfl (loc_call_is rfl rfl rfl rfl (one_ct (by decide) (by decide))) ?_
  refine rb rfl rfl rfl rfl (a_slice (cells := l4.flatMap Told.vs) rfl rfl rfl rfl (by kernel_rfl) rfl) ?_; intro b3 k3 hb3 hN3 hle3 hk3
  have hl : Sl tTold k3 (some ⟨b3, 0, none⟩) 4 l4 := sl_flat (xs := l4) hk3 rfl (fun x hx => ⟨rfl, ok4 x hx⟩) (by decide)
  repeat (first | refine cg_seq ?_ | refine cg_region ?_ | refine rg_nil ?_ | refine eg_then ?_ | refine qsp ?_)
  refine rs rfl rfl (loc_det rfl (d_lit (cells := (rcV 1).vs) rfl rfl rfl)) ?_
  refine rb rfl rfl rfl rfl (a_slice (cells := [rcV 1].flatMap Rec.vs) rfl rfl rfl rfl (by kernel_rfl) rfl) ?_; intro b4 k4 hb4 hN4 hle4 hk4
  refine rs rfl rfl (loc_det rfl (d_lit (cells := (btV 1).cs (some ⟨b4, 0, none⟩) 1) rfl rfl rfl)) ?_
  refine rs rfl rfl (loc_det rfl (d_lit (cells := (rcV 2).vs) rfl rfl rfl)) ?_
  refine rb rfl rfl rfl rfl (a_slice (cells := [rcV 2].flatMap Rec.vs) rfl rfl rfl rfl (by kernel_rfl) rfl) ?_; intro b5 k5 hb5 hN5 hle5 hk5
  refine rs rfl rfl (loc_det rfl (d_lit (cells := (btV 2).cs (some ⟨b5, 0, none⟩) 1) rfl rfl rfl)) ?_
  refine rb rfl rfl rfl rfl (a_slice (cells := (btV 1).cs (some ⟨b4, 0, none⟩) 1 ++ (btV 2).cs (some ⟨b5, 0, none⟩) 1) rfl rfl rfl rfl (by kernel_rfl) rfl) ?_; intro b6 k6 hb6 hN6 hle6 hk6
  have r4 : Sl tRec k4 (some ⟨b4, 0, none⟩) 1 [rcV 1] := sl_flat (xs := [rcV 1]) hk4 rfl (fun x hx => ⟨rfl, by simp at hx; subst hx; exact okRc 1 (by decide) (by decide)⟩) (by decide)
  have r5 : Sl tRec k5 (some ⟨b5, 0, none⟩) 1 [rcV 2] := sl_flat (xs := [rcV 2]) hk5 rfl (fun x hx => ⟨rfl, by simp at hx; subst hx; exact okRc 2 (by decide) (by decide)⟩) (by decide)
  have hbs : Sl tBatch k6 (some ⟨b6, 0, none⟩) 2 bs2 := sl_rows (xs := bs2) (css := [(btV 1).cs (some ⟨b4, 0, none⟩) 1, (btV 2).cs (some ⟨b5, 0, none⟩) 1]) hk6 rfl rfl (fun i cs x h1 h2 => by
    match i, h1, h2 with
    | 0, h1, h2 => simp [bs2] at h1 h2; rw [← h1, ← h2]; exact ⟨_, _, rfl, r4.le (hle5.trans hle6), okBt 1 (by decide) (by decide)⟩
    | 1, h1, h2 => simp [bs2] at h1 h2; rw [← h1, ← h2]; exact ⟨_, _, rfl, r5.le hle6, okBt 2 (by decide) (by decide)⟩) (by decide)
  have ct := ct.le (hle3.trans (hle4.trans (hle5.trans hle6)))
  repeat (first | refine cg_seq ?_ | refine cg_region ?_ | refine rg_nil ?_ | refine eg_then ?_ | refine qsp ?_ | refine qsg ?_)
  refine rs rfl rfl (loc_det rfl (d_lit (cells := (fcV 1).vs) rfl rfl rfl)) ?_
  repeat (first | refine qsg ?_)
  refine rs rfl rfl (loc_det rfl (d_lit (cells := (fcV 2).vs) rfl rfl rfl)) ?_
  refine rb rfl rfl rfl rfl (a_slice (cells := fs2.flatMap Fact.vs) rfl rfl rfl rfl (by kernel_rfl) rfl) ?_; intro b7 k7 hb7 hN7 hle7 hk7
  have hfs : Sl tFact k7 (some ⟨b7, 0, none⟩) 2 fs2 := sl_flat (xs := fs2) hk7 rfl (fun x hx => ⟨rfl, by
    simp only [fs2, List.mem_cons, List.not_mem_nil, or_false] at hx
    rcases hx with rfl | rfl <;> exact okFc _ (by decide) (by decide)⟩) (by decide)
  have ct := ct.le hle7
  have hl := hl.le (hle4.trans (hle5.trans (hle6.trans hle7)))
  have hbs := hbs.le hle7
  repeat (first | refine cg_seq ?_ | refine cg_region ?_ | refine rg_nil ?_ | refine eg_then ?_ | refine qsp ?_ | refine qsg ?_)
  refine rv rfl rfl rfl (loc_call rfl rfl rfl rfl slMono32 (audHome_ct tpT hl (by decide))) ?_
  rintro k8 hle8 _ ⟨ah, ch, rfl, hh⟩
  have ct := ct.le hle8
  have hl := hl.le hle8
  have hbs := hbs.le hle8
  have hfs := hfs.le hle8
  have q1 := audOrder_ct hl
  rw [e1] at q1
  repeat (first | refine cg_seq ?_ | refine cg_region ?_ | refine rg_nil ?_ | refine eg_then ?_ | refine qsp ?_)
  refine rs rfl rfl (loc_call_is rfl rfl rfl rfl (q1)) ?_
  repeat (first | refine qsp ?_ | refine qsg ?_)
  refine rs rfl rfl (loc_det rfl (d_lit (cells := (⟨tpT, 2⟩ : Mark).vs) rfl rfl rfl)) ?_
  refine rbg rfl rfl rfl rfl (a_slice (cells := [(⟨tpT, 2⟩ : Mark)].flatMap Mark.vs) rfl rfl rfl rfl (by kernel_rfl) rfl) ?_; intro b9 k9 hb9 hN9 hle9 hk9
  have hm9 : Sl tMark k9 (some ⟨b9, 0, none⟩) 1 [⟨tpT, 2⟩] := sl_flat (xs := [(⟨tpT, 2⟩ : Mark)]) hk9 rfl (fun x hx => ⟨rfl, by simp at hx; subst hx; exact ⟨okTp, okIA 2 (by decide) (by decide)⟩⟩) (by decide)
  have q2 := audOnce_ct (hl.le hle9) hm9
  rw [e2] at q2
  have ct := ct.le hle9
  skip
  refine rs rfl rfl (loc_call_is rfl rfl rfl rfl (q2)) ?_
  repeat (first | refine qsp ?_ | refine qsg ?_)
  refine rs rfl rfl (loc_det rfl (d_lit (cells := (⟨tpT, 4⟩ : Mark).vs) rfl rfl rfl)) ?_
  refine rbg rfl rfl rfl rfl (a_slice (cells := [(⟨tpT, 4⟩ : Mark)].flatMap Mark.vs) rfl rfl rfl rfl (by kernel_rfl) rfl) ?_; intro b10 k10 hb10 hN10 hle10 hk10
  have hm10 : Sl tMark k10 (some ⟨b10, 0, none⟩) 1 [⟨tpT, 4⟩] := sl_flat (xs := [(⟨tpT, 4⟩ : Mark)]) hk10 rfl (fun x hx => ⟨rfl, by simp at hx; subst hx; exact ⟨okTp, okIA 4 (by decide) (by decide)⟩⟩) (by decide)
  have q3 := audOnce_ct (hl.le (hle9.trans hle10)) hm10
  rw [e3] at q3
  skip
  refine rs rfl rfl (loc_call_is rfl rfl rfl rfl (q3)) ?_
  repeat (first | refine qsp ?_)
  refine rs rfl rfl (loc_call_is rfl rfl rfl rfl (one_ct (by decide) (by decide))) ?_
  refine rs rfl rfl (loc_call_is rfl rfl rfl rfl (one_ct (by decide) (by decide))) ?_
  refine rs rfl rfl (loc_call_is rfl rfl rfl rfl (one_ct (by decide) (by decide))) ?_
  refine rbg rfl rfl rfl rfl (a_slice (cells := l3.flatMap Told.vs) rfl rfl rfl rfl (by kernel_rfl) rfl) ?_; intro b11 k11 hb11 hN11 hle11 hk11
  have hl3 : Sl tTold k11 (some ⟨b11, 0, none⟩) 3 l3 := sl_flat (xs := l3) hk11 rfl (fun x hx => ⟨rfl, ok3 x hx⟩) (by decide)
  have q4 := audOrder_ct hl3
  rw [e4] at q4
  have hle12 := hle9.trans (hle10.trans hle11)
  have hl := hl.le hle12
  have hbs := hbs.le hle12
  have hfs := hfs.le hle12
  have hh := hh.le hle12
  skip
  refine rs rfl rfl (loc_call_is rfl rfl rfl rfl (q4)) ?_
  have q5 := audAll_ct 2 hl hbs (sl_none tGone k11) (by decide)
  rw [e5] at q5
  repeat (first | refine qsp ?_)
  refine rs rfl rfl (loc_call_is rfl rfl rfl rfl (q5)) ?_
  have q6 := audAll_ct 3 hl hbs (sl_none tGone k11) (by decide)
  rw [e6] at q6
  repeat (first | refine qsp ?_)
  refine rs rfl rfl (loc_call_is rfl rfl rfl rfl (q6)) ?_
  have q7 := audWhole_ct hl hfs
  rw [e7] at q7
  repeat (first | refine qsp ?_)
  refine rs rfl rfl (loc_call_is rfl rfl rfl rfl (q7)) ?_
  repeat (first | refine qsp ?_)
  refine rs rfl rfl (loc_det rfl (d_pre (i := 1) hfs rfl rfl rfl (by decide))) ?_
  have q8 := audWhole_ct hl (hfs.take 1)
  rw [e8] at q8
  skip
  refine rs rfl rfl (loc_call_is rfl rfl rfl rfl (q8)) ?_
  repeat (first | refine qsp ?_ | refine qsn ?_)
  obtain ⟨bx, ox, cx, rfl, ⟨rfl, _⟩, hcx⟩ := hh.el 1 (homeT (oneP 3)) (by decide +kernel)
  obtain ⟨p0, p1, p2, p3⟩ := Told.parts hcx
  obtain ⟨q0, q1', q2', q3', q4'⟩ := Rec.parts p3
  refine rs rfl rfl (loc_det rfl (d_idx (i := 1) rfl rfl rfl (by decide +kernel))) ?_
  repeat (first | refine qsp ?_ | refine qsl ?_ | refine qsf ?_)
  refine rs rfl rfl (loc_det rfl (d_idx (i := 1) rfl rfl rfl (by decide +kernel))) ?_
  repeat (first | refine qsp ?_ | refine qsl ?_ | refine qsf ?_)
  refine rs rfl rfl (loc_det rfl (d_lit (cells := (⟨.empty, 0, 0⟩ : Tp).vs) rfl rfl rfl)) ?_
  have q9 := audHome_ct ⟨.empty, 0, 0⟩ hl (by decide)
  refine rv rfl rfl rfl (loc_call rfl rfl rfl rfl slMono32 q9) ?_
  rintro k12 hle13 _ ⟨a9, c9, rfl, hh9⟩
  have e9 : (homeP l4 ⟨.empty, 0, 0⟩).length = 0 := by decide +kernel
  rw [e9]
  repeat (first | refine rg_nil ?_ | refine eg_then ?_ | refine qsp ?_ | refine qsn ?_ | refine cg_ret ?_)
  exact eg_return rfl rfl rfl
end Go.Wm
namespace Go.Wm
open Go.RowKit
/-- The low 16 bits. -/
def low16 (x : Int) : Nat := (BitVec.ofInt 64 x &&& BitVec.ofInt 64 65535).toNat
section
variable {P : Program} {o : Oper} {e : Env} {k : PH} {t t' : TypeId} {x y : Operand}
end
end Go.Wm
namespace Go.Wm
open Go.RowKit Go.Proofs
attribute [local irreducible] RG CG EG WA Loc Det Alc CT Exit.then Exit.inBlock Code.wp bodyPost
theorem short_one {s : List Batch} {n : Nat} (h : s.length * n ≤ reachBytes ∧ ∀ x ∈ s, x.small) : ∀ b ∈ s, Short b := fun b hb r hr => by
  have h1 := h.2 b hb
  unfold Batch.small at h1
  have h2 := h1.2.2.2.2.2.2.2.2.2.2 r hr
  exact ⟨h2.2.1, h2.2.2.1⟩
end Go.Wm
-- cut by zcut
namespace Go.Wm
open Go.RowKit Go.Proofs
attribute [local irreducible] RG CG EG WA Loc Det Alc CT Exit.then Exit.inBlock Code.wp bodyPost
theorem of_few {bs : List Batch} {n : Nat} (hb : bs.length ≤ n) : (ofT bs).openV.length ≤ n ∧ (ofT bs).gone.length ≤ n ∧ (ofT bs).done.length ≤ n := by
  have h := of_size bs
  unfold sizeT at h
  omega
end Go.Wm
-- cut by zcut
namespace Go.Wm
open Go.RowKit Go.Proofs
attribute [local irreducible] RG CG EG WA Loc Det Alc CT Exit.then Exit.inBlock Code.wp bodyPost
structure StepF (t : Tx) (b : Batch) (u : Tx) : Prop where
  o : u.openV.length ≤ t.openV.length + 1
  g : u.gone.length ≤ t.gone.length + 1
  d : u.done.length ≤ t.done.length + 1
  g' : t.gone.length ≤ u.gone.length
  d' : t.done.length ≤ u.done.length
  gt : u.gone.take t.gone.length = t.gone
  dt : u.done.take t.done.length = t.done
  sz : sizeT u = sizeT t ∨ (sizeT u = sizeT t + 1 ∧ b.ctl = 0 ∧ b.txn = true ∧ u.openV.length = t.openV.length + 1)
  none : b.txn = false → u = t
  ok : txP u = true
theorem stepF {t : Tx} {b : Batch} (h : putErr t b = 0) : StepF t b (putT t b) := by
  obtain ⟨h1, h2, h3⟩ := putErr_iff.1 h
  have f := chk_form h2
  have hok := put_ok h
  rcases put_len t b with ⟨e, _⟩ | ⟨c0, ct, th, e⟩ | ⟨c0, th, e⟩
  · rw [e] at hok ⊢
    exact ⟨by omega, by omega, by omega, by omega, by omega, List.take_length, List.take_length, .inl rfl, fun _ => rfl, hok⟩
  · rw [e] at hok ⊢
    have l1 := len_opens t b
    have l2 : (opensT t b).gone = t.gone := rfl
    have l3 : (opensT t b).done = t.done := rfl
    exact ⟨by omega, by rw [l2]; omega, by rw [l3]; omega, by rw [l2]; omega, by rw [l3]; omega, by rw [l2]; exact List.take_length, by rw [l3]; exact List.take_length, .inr ⟨by unfold sizeT; rw [l1, l2, l3]; omega, c0, ct, l1⟩, fun hn => (by rw [ct] at hn; cases hn), hok⟩
  · have l1 := len_less th
    have hno : b.txn = false → putT t b = t := fun hn => by rw [(f.ctl c0).2.2.2.1] at hn; cases hn
    rcases e with e | e
    · rw [e] at hok hno ⊢
      refine ⟨?_, ?_, ?_, ?_, ?_, ?_, ?_, .inl ?_, hno, hok⟩
      · show (lessT t b).length ≤ _; omega
      · show (t.gone ++ [goneOf t b]).length ≤ _; simp
      · show t.done.length ≤ _; omega
      · show _ ≤ (t.gone ++ [goneOf t b]).length; simp
      · show _ ≤ t.done.length; omega
      · show (t.gone ++ [goneOf t b]).take _ = _; simp
      · exact List.take_length
      · show (lessT t b).length + (t.gone ++ [goneOf t b]).length + t.done.length = _
        unfold sizeT; simp; omega
    · rw [e] at hok hno ⊢
      refine ⟨?_, ?_, ?_, ?_, ?_, ?_, ?_, .inl ?_, hno, hok⟩
      · show (lessT t b).length ≤ _; omega
      · show t.gone.length ≤ _; omega
      · show (t.done ++ [goneOf t b]).length ≤ _; simp
      · show _ ≤ t.gone.length; omega
      · show _ ≤ (t.done ++ [goneOf t b]).length; simp
      · exact List.take_length
      · show (t.done ++ [goneOf t b]).take _ = _; simp
      · show (lessT t b).length + t.gone.length + (t.done ++ [goneOf t b]).length = _
        unfold sizeT; simp; omega
end Go.Wm
-- cut by zcut
namespace Go.Wm
open Go.RowKit Go.Proofs
attribute [local irreducible] RG CG EG WA Loc Det Alc CT Exit.then Exit.inBlock Code.wp bodyPost
set_option maxHeartbeats 4000000 in
theorem auditRead_walk {k : PH} {a : Option Addr} {c : Nat} {bs : List Batch} {ct : List Value} {tp : Tp} {B1 : Prop} (hl : Sl tBatch k a c bs) (hsh : ∀ b ∈ bs, Short b) (hT : tTp.rep k ct tp) (_ : B1) :
    CT Tryz.prog 4 #[.slice a bs.length c, .agg ct.toArray] k (fun _ v => v = .bool true) := by
  obtain ⟨rfl, htp⟩ := hT
  refine ct_of_body (l := [_, _]) Tryz.func4 rfl Tryz.ntmps4 (by simp) (fun _ _ _ _ h => h) fun F hF0 hFm => ?_
  have b1 := hl.cap; have b2 := hl.max; unfold maxLen at b2
  repeat (first | refine cg_seq ?_ | refine cg_region ?_)
  refine rb rfl rfl rfl rfl (a_box rfl rfl) ?_; intro b3 k3 hb3 hN3 hle3 hk3
  have ctp := cells_at (vs := tp.vs) hk3 rfl
  have hl := hl.le hle3
  repeat (first | refine cg_seq ?_ | refine cg_region ?_ | refine rg_nil ?_ | refine eg_then ?_ | refine qsp ?_)
  refine rs rfl rfl (loc_call_is rfl rfl rfl rfl (live32_ct)) ?_
  repeat (first | refine cg_seq ?_ | refine cg_region ?_ | refine rg_nil ?_ | refine eg_then ?_ | refine qsp ?_)
  refine rs rfl rfl (loc_call_is rfl rfl rfl rfl (few32_ct hl hsh)) ?_
  repeat (first | refine qsp ?_)
  cases q1 : (bs.all fewB && decide ((bs.length : Int) ≤ 40))
  · repeat (first | refine cg_seq ?_ | refine cg_region ?_ | refine rg_nil ?_ | refine eg_then ?_ | refine qsp ?_ | refine qso ?_ | refine cg_cond_true rfl ?_ | refine cg_ret ?_ | refine eg_then_ret ?_)
    exact eg_return rfl rfl rfl
  simp only [Bool.and_eq_true, decide_eq_true_eq] at q1
  have h100 : ∀ b ∈ bs, b.recs.length ≤ 100 := fun b hb => by
    have := List.all_eq_true.1 q1.1 b hb
    unfold fewB at this
    simp only [Bool.and_eq_true, decide_eq_true_eq] at this
    exact this.2
  have q1 := q1.2
  repeat (first | refine qsp ?_)
  refine rs rfl rfl (loc_call_is rfl rfl rfl rfl (rising_ct hl)) ?_
  repeat (first | refine qsp ?_)
  cases q2 : decide (Rising bs)
  · repeat (first | refine cg_seq ?_ | refine cg_region ?_ | refine rg_nil ?_ | refine eg_then ?_ | refine qsp ?_ | refine qso ?_ | refine cg_cond_true rfl ?_ | refine cg_ret ?_ | refine eg_then_ret ?_)
    exact eg_return rfl rfl rfl
  have hR := of_decide_eq_true q2
  repeat (first | refine rg_nil ?_ | refine eg_then ?_ | refine qsp ?_ | refine qsn ?_)
  cases q3 : ((bs.length : Int) == 0)
  rotate_left
  · repeat (first | refine cg_seq ?_ | refine cg_region ?_ | refine rg_nil ?_ | refine eg_then ?_ | refine qsp ?_ | refine cg_cond_true rfl ?_ | refine cg_ret ?_ | refine eg_then_ret ?_)
    exact eg_return rfl rfl rfl
  have hpos : 0 < bs.length := List.length_pos_iff.2 (by simpa using q3)
  obtain ⟨f0, f1, f2⟩ := of_few (bs := bs) (n := 40) (by omega)
  repeat (first | refine cg_seq ?_ | refine cg_region ?_ | refine eg_then ?_ | refine qsp ?_ | refine cg_cond_false rfl ?_ | refine cg_skip ?_)
  refine rv rfl rfl rfl (loc_call rfl rfl rfl rfl TxVal.mono (txOf_ct hl (by omega))) ?_
  rintro k5 hle5 _ ⟨e0, d0, e1, d1, e2, d2, rfl, hX⟩
  skip
  refine rb rfl rfl rfl rfl (a_alloc rfl) ?_; intro b6 k6 hb6 hN6 hle6 hk6
  refine rw1 (vs := (ofT bs).cs e0 d0 e1 d1 e2 d2) rfl rfl rfl rfl rfl rfl rfl hk6 rfl (.inl hN6) ?_ ?_
  · simp [Tx.cs, Value.oneCell']
  intro k7 ht7 hk7
  have cx := cells_at (vs := (ofT bs).cs e0 d0 e1 d1 e2 d2) hk7 rfl
  have hle7 : Le k5 k7 := ht7 k5 hle6 hb6
  have hX := hX.le hle7
  have hl := hl.le (hle5.trans hle7)
  have ctp := ctp.le (hle5.trans hle7)
  obtain ⟨q, hq⟩ : ∃ q, q = bs.length - 1 := ⟨_, rfl⟩
  have hql : q < bs.length := by omega
  have w1 := chk_form (hR q hql).1
  have w2 := w1.last
  obtain ⟨bz, oz, cz, ez, ⟨za, zc, ecz, _, _⟩, hcz⟩ := hl.el q bs[q] (List.getElem?_eq_getElem hql)
  subst ez
  rw [ecz] at hcz
  obtain ⟨_, x1, _⟩ := Batch.parts hcz
  obtain ⟨hi', hhi⟩ : ∃ x : Int, x = (if 1099511627776 < bs[q].last + 1 then 1099511627776 else bs[q].last + 1) := ⟨_, rfl⟩
  have hI : I64 hi' := by rw [hhi]; split <;> exact ⟨by omega, by omega⟩
  repeat (first | refine cg_seq ?_ | refine rg_nil ?_ | refine eg_then ?_)
  refine cg_anyn (by kernel_rfl) rfl ?_
  repeat (first | refine qwp ?_ | refine qwn ?_ | refine qws ?_ | refine qwg ?_)
  rw [show (bs.length : Int) - 1 = (q : Int) by omega]
  repeat (first | refine qwa ?_ | refine qwi ?_ | refine qwl ?_ | refine qwf ?_)
  refine ws rfl (loc_det rfl (d_min rfl rfl rfl)) ?_
  repeat (first | refine qwg ?_)
  rw [← hhi]
  refine wv rfl (loc_call rfl rfl rfl rfl (fun _ _ _ _ h => h) (safe32_ct tp hi' htp hI hX (by omega) (by omega) (by omega))) ?_
  refine wv rfl (loc_mv rfl (.inr rfl) rfl (fun _ _ _ _ h => h)) ?_
  refine wnn ?_
  intro k8 vs8 hle8 hvs8
  obtain ⟨to, e7, hS⟩ := hvs8 7 _ rfl
  clear hvs8
  simp only [nameE, nameP]
  rw [e7]
  refine eg_then ?_
  have hX := hX.le hle8
  have hl := hl.le hle8
  have ctp := ctp.le hle8
  have cx := cx.le hle8
  obtain ⟨z0, z1, z2⟩ := Tx.parts cx
  have cx' := cx
  have hSl : (bs.filter (showB (ofT bs).gone to)).length ≤ bs.length := List.length_filter_le _ _
  obtain ⟨S, hSS⟩ : ∃ S, S = bs.filter (showB (ofT bs).gone to) := ⟨_, rfl⟩
  have hSn : ∀ b ∈ S, NumB b := fun b hb => by rw [hSS] at hb; exact chk_num (rising_chk hR b (List.mem_filter.1 hb).1)
  have hS1 : ∀ b ∈ S, b.recs.length ≤ 100 := fun b hb => by rw [hSS] at hb; exact h100 b (List.mem_filter.1 hb).1
  repeat (first | refine cg_seq ?_)
  refine cg_anyn (by kernel_rfl) rfl ?_
  repeat (first | refine qwp ?_ | refine qwl ?_ | refine qwf ?_)
  refine wv rfl (loc_call rfl rfl rfl rfl (fun k k' v hle ⟨a, c, h1, h2⟩ => ⟨a, c, h1, h2.le hle⟩) (show_ct to hl hX.g (by omega))) ?_
  repeat (first | refine qwg ?_)
  refine wv (φ := fun k' v => ∃ a' c', v = .slice a' (heardL S tp).length c' ∧ Sl tTold k' a' c' (heardL S tp)) rfl (loc_elim 42 rfl (by kernel_rfl) (fun k k' v hle ⟨a, c, h1, h2⟩ => ⟨a, c, h1, h2.le hle⟩) ?_) ?_
  · rintro v k9 hle9 ⟨p, s, rfl, h9⟩
    rw [← hSS] at h9 ⊢
    exact loc_call rfl rfl rfl rfl (fun k k' v hle ⟨a, c, h1, h2⟩ => ⟨a, c, h1, h2.le hle⟩) (heard_ct tp htp h9 hSn hS1 (by rw [hSS]; omega))
  refine wv rfl (loc_mv rfl (.inr rfl) rfl (fun k k' v hle ⟨a, c, h1, h2⟩ => ⟨a, c, h1, h2.le hle⟩)) ?_
  refine wnn ?_
  intro k9 vs9 hle9 hvs9
  obtain ⟨a9, c9, e9, hL⟩ := hvs9 8 _ rfl
  clear hvs9
  simp only [nameE, nameP]
  rw [e9]
  refine eg_then ?_
  have hX := hX.le hle9
  have hl := hl.le hle9
  have ctp := ctp.le hle9
  have cx := cx.le hle9
  repeat (first | refine cg_seq ?_ | refine cg_region ?_ | refine rg_nil ?_ | refine eg_then ?_ | refine qsp ?_)
  cases q4 : decide (to < 0)
  rotate_left
  · repeat (first | refine cg_seq ?_ | refine cg_region ?_ | refine rg_nil ?_ | refine eg_then ?_ | refine qsp ?_ | refine cg_cond_true rfl ?_ | refine cg_ret ?_ | refine eg_then_ret ?_)
    exact eg_return rfl rfl rfl
  have hto : ¬ to < 0 := of_decide_eq_false q4
  have hC : CutF bs to := by
    rcases hS with h | ⟨_, h2, h3⟩
    · omega
    · exact ⟨stab_eq h2, h3⟩
  have hch : ∀ b ∈ S, chkB b = 0 := fun b hb => by rw [hSS] at hb; exact rising_chk hR b (List.mem_filter.1 hb).1
  have hpw : (heardL S tp).Pairwise fun a b => a.off < b.off := heard_rise hch (by rw [hSS]; exact (rising_pair hR).sublist List.filter_sublist)
  have hw1 := heard_order hpw
  have hw2 := heard_once (tp := tp) hpw (fun s hs => by obtain ⟨b, hb, r, hr, rfl⟩ := heard_mem.1 hs; rfl) (fun s hs => by
    obtain ⟨b, hb, r, hr, rfl⟩ := heard_mem.1 hs
    obtain ⟨n1, n2, n3, n4, n5⟩ := hSn b hb
    have := n5 r hr
    show 0 ≤ r.off
    omega)
  have hw3 : (neededL bs (ofT bs).gone to).all (toldP (heardL S tp)) = true := by rw [hSS]; exact heard_all
  have hw4 : WholeR (heardL S tp) (factsN tp (ofT bs) bs bs.length) := by rw [hSS]; exact heard_whole hR hC
  have s1 := audOrder_ct hL
  rw [decide_eq_true hw1] at s1
  repeat (first | refine cg_seq ?_ | refine cg_region ?_ | refine eg_then ?_ | refine qsp ?_ | refine cg_cond_false rfl ?_ | refine cg_skip ?_)
  refine rs rfl rfl (loc_call_is rfl rfl rfl rfl (s1)) ?_
  simp only [errOf, if_true]
  repeat (first | refine qsp ?_ | refine qsg ?_)
  refine rs rfl rfl (loc_det rfl (d_lit (cells := (⟨tp, 0⟩ : Mark).vs) rfl rfl rfl)) ?_
  skip
  refine rbg rfl rfl rfl rfl (a_slice (cells := [(⟨tp, 0⟩ : Mark)].flatMap Mark.vs) rfl rfl rfl rfl (by kernel_rfl) rfl) ?_
  intro b10 k10 hb10 hN10 hle10 hk10
  have hM : Sl tMark k10 (some ⟨b10, 0, none⟩) 1 [⟨tp, 0⟩] := sl_flat (xs := [(⟨tp, 0⟩ : Mark)]) hk10 rfl (fun x hx => ⟨rfl, by simp at hx; subst hx; exact ⟨htp, i64_0⟩⟩) (by simp [maxLen])
  have hL := hL.le hle10
  have hX := hX.le hle10
  have hl := hl.le hle10
  have ctp := ctp.le hle10
  have cx := cx.le hle10
  obtain ⟨z0, z1, z2⟩ := Tx.parts cx
  have cx' := cx
  have s2 := audOnce_ct hL hM
  rw [decide_eq_true hw2] at s2
  skip
  refine rs rfl rfl (loc_call_is rfl rfl rfl rfl (s2)) ?_
  simp only [errOf, if_true]
  have s3 := audAll_ct to hL hl hX.g (by omega)
  rw [hw3] at s3
  repeat (first | refine qsp ?_ | refine qsl ?_ | refine qsf ?_)
  refine rs rfl rfl (loc_call_is rfl rfl rfl rfl (s3)) ?_
  simp only [errOf, if_true]
  repeat (first | refine qsp ?_ | refine qsg ?_)
  refine rv rfl rfl rfl (loc_call rfl rfl rfl rfl (fun k k' v hle ⟨a, c, h1, h2⟩ => ⟨a, c, h1, h2.le hle⟩) (facts_ct tp htp hl hX.d h100 (by omega))) ?_
  rintro k11 hle11 _ ⟨a11, c11, rfl, hF⟩
  have s4 := audWhole_ct (hL.le hle11) hF
  rw [decide_eq_true hw4] at s4
  skip
  refine rs rfl rfl (loc_call_is rfl rfl rfl rfl (s4)) ?_
  simp only [errOf, if_true]
  repeat (first | refine rg_nil ?_ | refine eg_then ?_ | refine qsp ?_ | refine cg_ret ?_)
  exact eg_return rfl rfl rfl
end Go.Wm

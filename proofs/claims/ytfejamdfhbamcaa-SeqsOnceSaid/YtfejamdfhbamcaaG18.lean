/-
  The example of layer 11 runs. Conditions: none.
-/
import Derived.Test.YtfejamdfhbamcaaG17
import Derived.Test.YtfejamdfhbamcaaM4
set_option linter.all false
namespace Go.Wm
open Go.RowKit Go.Proofs
theorem chk_short {b : Batch} (h : FormP b) (hn : b.recs.length ≤ 5) : chkB b = 0 := by
  have h1 := pre_len h
  have h2 := stampL_len h b.recs.length
  have h3 := flat_recs_len h (b.recs.take b.recs.length) fun r hr => h.few.1 r (List.mem_of_mem_take hr)
  rw [List.length_take] at h3
  have h4 : (bodyL b b.recs.length).length ≤ 1200 := by
    simp only [bodyL, List.length_append]
    omega
  have h5 : (batchL b).length ≤ 2048 := by
    unfold batchL
    rw [List.length_append, bigL_len, sealL_len]
    omega
  rw [chkB, if_pos h, if_pos h5]
def sentB (gen seq base : Int) : Batch := ⟨base, base + 1, base, 0, 3, gen, seq, false, 0, [⟨base, ByteArray.empty, ⟨#[97]⟩, false, 0⟩, ⟨base + 1, ByteArray.empty, ⟨#[98]⟩, false, 0⟩]⟩
def exP : List ProdT := [⟨3, 0, [⟨0, 1, 7⟩]⟩]
def exQ : List ProdT := [⟨3, 1, [⟨0, 1, 9⟩]⟩]
theorem exc0 : chkB (sentB 0 0 7) = 0 := chk_short (by decide +kernel) (by decide)
theorem exc1 : chkB (sentB 0 0 9) = 0 := chk_short (by decide +kernel) (by decide)
theorem exc2 : chkB (sentB 0 2 9) = 0 := chk_short (by decide +kernel) (by decide)
theorem exc3 : chkB (sentB 0 3 9) = 0 := chk_short (by decide +kernel) (by decide)
theorem exc4 : chkB (sentB 1 0 9) = 0 := chk_short (by decide +kernel) (by decide)
theorem exk0 : chkP [] = 0 := by decide +kernel
theorem exk1 : chkP exP = 0 := by decide +kernel
theorem exk2 : chkP exQ = 0 := by decide +kernel
def lookS (l : List ProdT) (b : Batch) : Int × Bool × Int := if (stateR l b).2 = true then (0, false, 110) else if b.ctl ≠ 0 then (0, false, 0) else stepLook (stateR l b).1 b
theorem look_s {l : List ProdT} {b : Batch} (h1 : chkP l = 0) (h2 : chkB b = 0) (h3 : ¬ b.pid < 0) : lookR l b = lookS l b := by
  unfold lookR lookS; rw [if_neg (by simp [h1]), if_neg (by simp [h2]; omega)]
theorem exl0 : lookR [] (sentB 0 0 7) = (0, false, 0) := by rw [look_s exk0 exc0 (by decide)]; decide +kernel
theorem exl1 : lookR exP (sentB 0 0 9) = (7, true, 0) := by rw [look_s exk1 exc1 (by decide)]; decide +kernel
theorem exl2 : lookR exP (sentB 0 2 9) = (0, false, 0) := by rw [look_s exk1 exc2 (by decide)]; decide +kernel
theorem exl3 : lookR exP (sentB 0 3 9) = (0, false, 111) := by rw [look_s exk1 exc3 (by decide)]; decide +kernel
theorem exl4 : lookR exP (sentB 1 0 9) = (0, false, 0) := by rw [look_s exk1 exc4 (by decide)]; decide +kernel
theorem exl5 : lookR exQ (sentB 0 2 9) = (0, false, 110) := by rw [look_s exk2 exc2 (by decide)]; decide +kernel
theorem exp0 : putR [] (sentB 0 0 7) = (exP, 0) := by unfold putR; rw [exl0]; decide +kernel
theorem exp1 : putR exP (sentB 1 0 9) = (exQ, 0) := by unfold putR; rw [exl4]; decide +kernel
theorem exof : ofR [sentB 0 0 7] = exP := by
  show ofStep [] (sentB 0 0 7) = exP
  unfold ofStep; rw [exp0]; rfl
theorem exsave : saveP exP = (sealL (prodsL exP), 0) := by unfold saveP; rw [if_pos exk1]
theorem exload : loadP (sealL (prodsL exP)) = (exP, 0) := by have := loadP_save exk1; rwa [exsave] at this
theorem ofEx_ct {k : PH} {a : Option Addr} {c : Nat} (h : Sl tBatch k a c [sentB 0 0 7]) : CT Try.prog 28 #[.slice a 1 c] k (fun _ v => ∃ a' c', v = .slice a' 1 c') := by
  intro w k1 hle hs
  have H : Calls Try.prog 28 #[.slice a 1 c] w _ := of_ctn h w k1 hle hs
  refine H.mono ?_
  rintro e w' ⟨v, k', h1, h2, h3, h4, h5⟩
  rw [exof] at h5
  obtain ⟨a', c', e', _⟩ := Own.sl h5
  exact ⟨v, k', h1, h2, h3, h4, a', c', e'⟩
attribute [local irreducible] RG CG EG WA Loc Det Alc CT Exit.then Exit.inBlock Code.wp bodyPost
def SentV (b : Batch) (k : PH) (v : Value) : Prop := ∃ a c, v = .agg (b.cs a c).toArray ∧ Sl tRec k a c b.recs
theorem SentV.mono {b : Batch} : ∀ k k' v, Le k k' → SentV b k v → SentV b k' v := fun k k' v hle ⟨a, c, h1, h2⟩ => ⟨a, c, h1, h2.le hle⟩
set_option maxHeartbeats 1000000 in
theorem sent_ct {k : PH} (gen seq base : Int) (hb : 0 ≤ base ∧ base ≤ 1000) : CT Try.prog 63 #[.int .i64 gen, .int .i64 seq, .int .i64 base] k (SentV (sentB gen seq base)) := by
  refine ct_of_body (l := [_, _, _]) Try.func63 rfl Try.ntmps63 (by simp) SentV.mono fun F hF0 hFm => ?_
  repeat (first | refine cg_seq ?_ | refine cg_region ?_)
  refine rb rfl rfl rfl rfl (a_alloc rfl) ?_; intro b1 k1 hb1 hN1 hle1 hk1
  repeat (first | refine cg_seq ?_ | refine cg_region ?_ | refine rg_nil ?_ | refine eg_then ?_ | refine qsp ?_ | refine qsa ?_)
  refine rs rfl rfl (loc_det rfl (d_lit (cells := (⟨base, ByteArray.empty, ⟨#[97]⟩, false, 0⟩ : Rec).vs) rfl rfl rfl)) ?_
  repeat (first | refine qsp ?_ | refine qsa ?_)
  refine rs rfl rfl (loc_det rfl (d_lit (cells := (⟨base + 1, ByteArray.empty, ⟨#[98]⟩, false, 0⟩ : Rec).vs) rfl rfl rfl)) ?_
  refine rb rfl rfl rfl rfl (a_slice (cells := (⟨base, ByteArray.empty, ⟨#[97]⟩, false, 0⟩ : Rec).vs ++ (⟨base + 1, ByteArray.empty, ⟨#[98]⟩, false, 0⟩ : Rec).vs) rfl rfl rfl rfl (by kernel_rfl) rfl) ?_
  intro b2 k2 hb2 hN2 hle2 hk2
  have hb21 : b2 ≠ b1 := fun e => by rw [e, hk1] at hb2; cases hb2
  skip
  refine rs rfl rfl (loc_det rfl (d_lit (cells := (sentB gen seq base).cs (some ⟨b2, 0, none⟩) 2) rfl rfl rfl)) ?_
  refine rw1 (vs := (sentB gen seq base).cs (some ⟨b2, 0, none⟩) 2) rfl rfl rfl rfl rfl rfl rfl (hle2 _ _ hk1) rfl (.inl hN1) ?_ ?_
  · simp [Batch.cs, Value.oneCell']
  intro k3 ht3 hk3
  have c3 := cells_at (vs := (sentB gen seq base).cs (some ⟨b2, 0, none⟩) 2) hk3 rfl
  repeat (first | refine rg_nil ?_ | refine eg_then ?_ | refine cg_ret ?_)
  refine eg_returnC rfl rfl rfl c3 rfl ⟨_, _, rfl, ?_⟩
  have hz : ByteArray.empty.size ≤ maxLen := Nat.zero_le _
  have hI : ∀ n : Int, 0 ≤ n ∧ n ≤ 2000 → I64 n := fun n h => by unfold I64; omega
  refine sl_rows (T := tRec) (xs := (sentB gen seq base).recs) (css := [(⟨base, ByteArray.empty, ⟨#[97]⟩, false, 0⟩ : Rec).vs, (⟨base + 1, ByteArray.empty, ⟨#[98]⟩, false, 0⟩ : Rec).vs]) (turn1_get ht3 hb21 hk2) rfl rfl (fun i cs x h1 h2 => ?_) (by simp [sentB, maxLen])
  match i, h1, h2 with
  | 0, h1, h2 =>
    simp [sentB] at h1 h2
    rw [← h1, ← h2]
    exact ⟨rfl, hI base (by omega), hz, show 1 ≤ maxLen by unfold maxLen; omega, trivial, hI 0 (by omega)⟩
  | 1, h1, h2 =>
    simp [sentB] at h1 h2
    rw [← h1, ← h2]
    exact ⟨rfl, hI (base + 1) (by omega), hz, show 1 ≤ maxLen by unfold maxLen; omega, trivial, hI 0 (by omega)⟩
theorem sent_ok {gen seq base : Int} (hb : 0 ≤ base ∧ base ≤ 1000) (hg : 0 ≤ gen ∧ gen ≤ 1000) (hs : 0 ≤ seq ∧ seq ≤ 1000) : (sentB gen seq base).ok := by
  have hI : ∀ n : Int, 0 ≤ n ∧ n ≤ 2000 → I64 n := fun n h => by unfold I64; omega
  exact ⟨hI _ (by dsimp only [sentB]; omega), hI _ (by dsimp only [sentB]; omega), hI _ (by dsimp only [sentB]; omega), hI _ (by dsimp only [sentB]; omega), hI _ (by dsimp only [sentB]; omega), hI _ (by dsimp only [sentB]; omega), hI _ (by dsimp only [sentB]; omega), trivial, hI _ (by dsimp only [sentB]; omega), trivial⟩
theorem sl_nilP (k : PH) : Sl tProdT k none 0 [] := ⟨by simp, by simp [maxLen], fun _ => rfl, by simp, by simp⟩
theorem put0_ctn {k : PH} {a : Option Addr} {c : Nat} (hr : Sl tRec k a c (sentB 0 0 7).recs) : CTN Try.prog 24 #[.slice none 0 0, .agg ((sentB 0 0 7).cs a c).toArray] k (PutV (exP, 0)) := by
  have h := seqsPut_ctn (l := []) (b := sentB 0 0 7) (sl_nilP k) hr (sent_ok (by omega) (by omega) (by omega))
  rw [exp0] at h
  exact h
theorem put1_ctn {k : PH} {al : Option Addr} {cl : Nat} {a : Option Addr} {c : Nat} (hl : Sl tProdT k al cl exP) (hr : Sl tRec k a c (sentB 1 0 9).recs) : CTN Try.prog 24 #[.slice al exP.length cl, .agg ((sentB 1 0 9).cs a c).toArray] k (PutV (exQ, 0)) := by
  have h := seqsPut_ctn (l := exP) (b := sentB 1 0 9) hl hr (sent_ok (by omega) (by omega) (by omega))
  rw [exp1] at h
  exact h
set_option maxHeartbeats 8000000 in
theorem live11_ct {k : PH} : CT Try.prog 18 #[] k (fun _ v => v = .bool true) := by
  refine ct_of_body (l := []) Try.func18 rfl Try.ntmps18 (by simp) (fun _ _ _ _ h => h) fun F hF0 hFm => ?_
  repeat (first | refine cg_seq ?_ | refine cg_region ?_ | refine rg_nil ?_ | refine eg_then ?_ | refine qsp ?_)
  refine rv rfl rfl rfl (loc_call rfl rfl rfl rfl SentV.mono (sent_ct 0 0 7 (by omega))) ?_
  rintro k1 hle1 _ ⟨a1, c1, rfl, r1⟩
  refine rs rfl rfl (loc_call_is rfl rfl rfl rfl (look_ct (sl_nilP _) r1 (sent_ok (by omega) (by omega) (by omega)))) ?_
  rw [exl0]; unfold lookVal; dsimp only
  repeat (first | refine cg_seq ?_ | refine cg_region ?_ | refine rg_nil ?_ | refine eg_then ?_ | refine qsp ?_)
  refine rv rfl rfl rfl (loc_call rfl rfl rfl rfl SentV.mono (sent_ct 0 0 7 (by omega))) ?_
  rintro k2 hle2 _ ⟨a2, c2, rfl, r2⟩
  refine rvn rfl rfl rfl rfl rfl rfl rfl (put0_ctn r2) ?_
  rintro N3 k3 _ hN3 _ hle3 ⟨u3, rfl, own3⟩
  dsimp only at own3 ⊢
  obtain ⟨a3, c3, rfl, s3⟩ := own3.sl
  repeat (first | refine cg_seq ?_ | refine cg_region ?_ | refine rg_nil ?_ | refine eg_then ?_ | refine qsp ?_)
  refine rv rfl rfl rfl (loc_call rfl rfl rfl rfl SentV.mono (sent_ct 0 0 9 (by omega))) ?_
  rintro k4 hle4 _ ⟨a4, c4, rfl, r4⟩
  have s3 := s3.le hle4
  refine rs rfl rfl (loc_call_is rfl rfl rfl rfl (look_ct s3 r4 (sent_ok (by omega) (by omega) (by omega)))) ?_
  rw [exl1]; unfold lookVal; dsimp only
  repeat (first | refine cg_seq ?_ | refine cg_region ?_ | refine rg_nil ?_ | refine eg_then ?_ | refine qsp ?_)
  refine rv rfl rfl rfl (loc_call rfl rfl rfl rfl SentV.mono (sent_ct 0 2 9 (by omega))) ?_
  rintro k5 hle5 _ ⟨a5, c5, rfl, r5⟩
  have s3 := s3.le hle5
  refine rs rfl rfl (loc_call_is rfl rfl rfl rfl (look_ct s3 r5 (sent_ok (by omega) (by omega) (by omega)))) ?_
  rw [exl2]; unfold lookVal; dsimp only
  repeat (first | refine cg_seq ?_ | refine cg_region ?_ | refine rg_nil ?_ | refine eg_then ?_ | refine qsp ?_)
  refine rv rfl rfl rfl (loc_call rfl rfl rfl rfl SentV.mono (sent_ct 0 3 9 (by omega))) ?_
  rintro k6 hle6 _ ⟨a6, c6, rfl, r6⟩
  have s3 := s3.le hle6
  refine rs rfl rfl (loc_call_is rfl rfl rfl rfl (look_ct s3 r6 (sent_ok (by omega) (by omega) (by omega)))) ?_
  rw [exl3]; unfold lookVal; dsimp only
  repeat (first | refine cg_seq ?_ | refine cg_region ?_ | refine rg_nil ?_ | refine eg_then ?_ | refine qsp ?_)
  refine rv rfl rfl rfl (loc_call rfl rfl rfl rfl SentV.mono (sent_ct 1 0 9 (by omega))) ?_
  rintro k7 hle7 _ ⟨a7, c7, rfl, r7⟩
  have s3 := s3.le hle7
  refine rvn rfl rfl rfl rfl rfl rfl rfl (put1_ctn s3 r7) ?_
  rintro N8 k8 _ hN8 _ hle8 ⟨u8, rfl, own8⟩
  have s3 := s3.le hle8
  dsimp only at own8 ⊢
  obtain ⟨a8, c8, rfl, s8⟩ := own8.sl
  repeat (first | refine cg_seq ?_ | refine cg_region ?_ | refine rg_nil ?_ | refine eg_then ?_ | refine qsp ?_)
  refine rv rfl rfl rfl (loc_call rfl rfl rfl rfl SentV.mono (sent_ct 0 2 9 (by omega))) ?_
  rintro k9 hle9 _ ⟨a9, c9, rfl, r9⟩
  have s3 := s3.le hle9
  have s8 := s8.le hle9
  refine rs rfl rfl (loc_call_is rfl rfl rfl rfl (look_ct s8 r9 (sent_ok (by omega) (by omega) (by omega)))) ?_
  rw [exl5]; unfold lookVal; dsimp only
  repeat (first | refine cg_seq ?_ | refine cg_region ?_ | refine rg_nil ?_ | refine eg_then ?_ | refine qsp ?_)
  refine rs rfl rfl (loc_det rfl (d_lit (cells := Did.vs ⟨0, 1, 7⟩) rfl rfl rfl)) ?_
  refine rb rfl rfl rfl rfl (a_slice (cells := Did.vs ⟨0, 1, 7⟩) rfl rfl rfl rfl (by kernel_rfl) rfl) ?_; intro b10 k10 hb10 hN10 hle10 hk10
  skip
  refine rs rfl rfl (loc_det rfl (d_lit (cells := ProdT.cs ⟨3, 0, [⟨0, 1, 7⟩]⟩ (some ⟨b10, 0, none⟩) 1) rfl rfl rfl)) ?_
  refine rb rfl rfl rfl rfl (a_slice (cells := ProdT.cs ⟨3, 0, [⟨0, 1, 7⟩]⟩ (some ⟨b10, 0, none⟩) 1) rfl rfl rfl rfl (by kernel_rfl) rfl) ?_; intro b11 k11 hb11 hN11 hle11 hk11
  have hI : ∀ n : Int, 0 ≤ n ∧ n ≤ 2000 → I64 n := fun n h => by unfold I64; omega
  have sd : Sl tDid k11 (some ⟨b10, 0, none⟩) 1 [⟨0, 1, 7⟩] := sl_rows (T := tDid) (xs := [⟨0, 1, 7⟩]) (css := [Did.vs ⟨0, 1, 7⟩]) (hle11 _ _ hk10) rfl rfl (fun i cs x h1 h2 => by
    cases i with
    | zero => simp at h1 h2; rw [← h1, ← h2]; exact ⟨rfl, hI 0 (by omega), hI 1 (by omega), hI 7 (by omega)⟩
    | succ i => simp at h1) (by simp [maxLen])
  have sw : Sl tProdT k11 (some ⟨b11, 0, none⟩) 1 exP := sl_rows (T := tProdT) (xs := exP) (css := [ProdT.cs ⟨3, 0, [⟨0, 1, 7⟩]⟩ (some ⟨b10, 0, none⟩) 1]) hk11 rfl rfl (fun i cs x h1 h2 => by
    cases i with
    | zero => simp [exP] at h1 h2; rw [← h1, ← h2]; exact ⟨_, _, rfl, sd, hI 3 (by omega), hI 0 (by omega), trivial⟩
    | succ i => simp at h1) (by simp [exP, maxLen])
  have s3 := s3.le (hle10.trans hle11)
  repeat (first | refine cg_seq ?_ | refine cg_region ?_ | refine rg_nil ?_ | refine eg_then ?_ | refine qsp ?_)
  refine rs rfl rfl (loc_call_is rfl rfl rfl rfl (samePd_ct s3 sw)) ?_
  rw [decide_eq_true (rfl : exP = exP)]
  repeat (first | refine cg_seq ?_ | refine cg_region ?_ | refine rg_nil ?_ | refine eg_then ?_ | refine qsp ?_)
  refine rvn rfl rfl rfl rfl rfl rfl rfl (savePd_ctn s3) ?_
  rintro N12 k12 _ hN12 _ hle12 ⟨u12, rfl, row12⟩
  rw [exsave] at row12 ⊢
  dsimp only at row12 ⊢
  obtain ⟨a12, c12, rfl, s12⟩ := row12.sl (seal_bytes (prodsL_bytes _))
  have sw := sw.le hle12
  repeat (first | refine cg_seq ?_ | refine cg_region ?_ | refine rg_nil ?_ | refine eg_then ?_ | refine qsp ?_)
  refine rvn rfl rfl rfl rfl rfl rfl rfl (loadPd_ctn s12 (by decide +kernel)) ?_
  rintro N13 k13 _ hN13 _ hle13 ⟨u13, rfl, own13⟩
  rw [exload] at own13 ⊢
  dsimp only at own13 ⊢
  obtain ⟨a13, c13, rfl, s13⟩ := own13.sl
  have sw := sw.le hle13
  repeat (first | refine cg_seq ?_ | refine cg_region ?_ | refine rg_nil ?_ | refine eg_then ?_ | refine qsp ?_)
  refine rs rfl rfl (loc_call_is rfl rfl rfl rfl (samePd_ct s13 sw)) ?_
  rw [decide_eq_true (rfl : exP = exP)]
  repeat (first | refine cg_seq ?_ | refine cg_region ?_ | refine rg_nil ?_ | refine eg_then ?_ | refine qsp ?_)
  refine rs rfl rfl (loc_call_is rfl rfl rfl rfl (seqsCheck_ct sw)) ?_
  rw [exk1]
  repeat (first | refine qsp ?_)
  refine rv rfl rfl rfl (loc_call rfl rfl rfl rfl SentV.mono (sent_ct 0 0 7 (by omega))) ?_
  rintro k14 hle14 _ ⟨a14, c14, rfl, r14⟩
  skip
  refine rbg rfl rfl rfl rfl (a_slice (cells := (sentB 0 0 7).cs a14 c14) rfl rfl rfl rfl (by kernel_rfl) rfl) ?_; intro b15 k15 hb15 hN15 hle15 hk15
  have sb : Sl tBatch k15 (some ⟨b15, 0, none⟩) 1 [sentB 0 0 7] := sl_rows (T := tBatch) (xs := [sentB 0 0 7]) (css := [(sentB 0 0 7).cs a14 c14]) hk15 rfl rfl (fun i cs x h1 h2 => by
    cases i with
    | zero => simp at h1 h2; rw [← h1, ← h2]; exact ⟨_, _, rfl, r14.le hle15, sent_ok (by omega) (by omega) (by omega)⟩
    | succ i => simp at h1) (by simp [maxLen])
  refine rv rfl rfl rfl (loc_call rfl rfl rfl rfl (fun _ _ _ _ h => h) (ofEx_ct sb)) ?_
  rintro k16 hle16 _ ⟨a16, c16, rfl⟩
  repeat (first | refine rg_nil ?_ | refine eg_then ?_ | refine qsp ?_ | refine qsn ?_ | refine cg_ret ?_)
  exact eg_return rfl rfl rfl
end Go.Wm

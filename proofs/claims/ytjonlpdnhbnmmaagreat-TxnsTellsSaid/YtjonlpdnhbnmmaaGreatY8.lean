/-
  A batch put behind transactions, the document's. Conditions: that what is handed in reads as data.
-/
import Derived.Test.YtjonlpdnhbnmmaaGreatQ4
set_option linter.all false
namespace Go.Wm
open Go.RowKit Go.Proofs
theorem topL_lt {base : Int} : ∀ (l : List Int) (n : Int), topL n l < base ↔ n < base ∧ ∀ x ∈ l, x < base
  | [], n => by simp [topL]
  | y :: l, n => by
    have h := topL_lt (base := base) l (if n < y then y else n)
    have e : topL n (y :: l) = topL (if n < y then y else n) l := rfl
    rw [e, h]
    have hl : (∀ x ∈ y :: l, x < base) ↔ y < base ∧ ∀ x ∈ l, x < base := by simp
    rw [hl]
    have hif : (if n < y then y else n) < base ↔ n < base ∧ y < base := by split <;> omega
    rw [hif]
    constructor
    · rintro ⟨⟨h1, h2⟩, h3⟩; exact ⟨h1, h2, h3⟩
    · rintro ⟨h1, h2, h3⟩; exact ⟨⟨h1, h2⟩, h3⟩
theorem behind_top {t : Tx} {base : Int} (h : 0 ≤ base) : behindB t base = !decide (base ≤ topT t) := by
  have h1 : behindB t base = true ↔ topT t < base := by
    unfold topT
    rw [topL_lt, topL_lt, topL_lt, behind_iff]
    simp only [List.mem_map, forall_exists_index, and_imp, forall_apply_eq_imp_iff₂]
    constructor
    · rintro ⟨h1, h2, h3⟩; exact ⟨⟨⟨by omega, h1⟩, h2⟩, h3⟩
    · rintro ⟨⟨⟨_, h1⟩, h2⟩, h3⟩; exact ⟨h1, h2, h3⟩
  rw [Bool.eq_iff_iff, h1]
  simp
end Go.Wm
namespace Go.Wm
open Go.RowKit Go.Proofs
attribute [local irreducible] RG CG EG WA Loc Det Alc CT Exit.then Exit.inBlock Code.wp bodyPost
set_option maxHeartbeats 4000000 in
theorem refPut0_ct {k : PH} {t : Tx} {b : Batch} {a0 : Option Addr} {c0 : Nat} {a1 : Option Addr} {c1 : Nat} {a2 : Option Addr} {c2 : Nat} {ab : Option Addr} {cb : Nat} (ht : TxAt k t a0 c0 a1 c1 a2 c2) (hr : Sl tRec k ab cb b.recs) (hok : b.ok) (hctl : b.ctl = 0 ∨ b.ctl = 1 ∨ b.ctl = 2) (ho : t.openV.length ≤ 1000000) (hg : t.gone.length ≤ 1000000) (hd : t.done.length ≤ 1000000) :
    CT Tryz.prog 82 #[.agg (t.cs a0 c0 a1 c1 a2 c2).toArray, .agg (b.cs ab cb).toArray] k (TxVal (putT t b)) := by
  refine ct_of_body (l := [_, _]) Tryz.func82 rfl Tryz.ntmps82 (by simp) TxVal.mono fun F hF0 hFm => ?_
  have B0 := ht.o.cap; have B1 := ht.o.max; unfold maxLen at B1
  have B2 := ht.g.cap; have B3 := ht.g.max; unfold maxLen at B3
  have B4 := ht.d.cap; have B5 := ht.d.max; unfold maxLen at B5
  repeat (first | refine cg_seq ?_ | refine cg_region ?_)
  refine rb rfl rfl rfl rfl (a_box rfl rfl) ?_; intro b2 k2 hb2 hN2 hle2 hk2
  refine rb rfl rfl rfl rfl (a_box rfl rfl) ?_; intro b3 k3 hb3 hN3 hle3 hk3
  refine rb rfl rfl rfl rfl (a_alloc rfl) ?_; intro b4 k4 hb4 hN4 hle4 hk4
  have hle := hle2.trans (hle3.trans hle4)
  have ct := (cells_at (vs := t.cs a0 c0 a1 c1 a2 c2) hk2 rfl).le (hle3.trans hle4)
  have cbt := (cells_at (vs := b.cs ab cb) hk3 rfl).le hle4
  have ht0 := ht
  have ht := ht.le hle
  have hkb4 := hk4
  obtain ⟨z0, z1, z2⟩ := Tx.parts ct
  obtain ⟨p0, p1, p2, p3, p4, p5, p6, p7, p8, p9⟩ := Batch.parts cbt
  repeat (first | refine cg_seq ?_ | refine cg_region ?_ | refine rg_nil ?_ | refine eg_then ?_ | refine qsl ?_ | refine qsf ?_)
  refine rs rfl rfl (loc_call_is rfl rfl rfl rfl (place_ct b.pid ht.o)) ?_
  have hpl := placeO_le t.openV b.pid
  obtain ⟨at', hat⟩ : ∃ n, n = placeO t.openV b.pid := ⟨_, rfl⟩
  rw [← hat] at hpl ⊢
  have hgood : ∀ (k' : PH) (q0 : Option Addr) (s0 : Nat) (q1 : Option Addr) (s1 : Nat) (q2 : Option Addr) (s2 : Nat) (u : Tx), putT t b = u → TxAt k' u q0 s0 q1 s1 q2 s2 → TxVal (putT t b) k' (.agg (u.cs q0 s0 q1 s1 q2 s2).toArray) := fun k' q0 s0 q1 s1 q2 s2 u hu hat => by
    rw [hu]; exact ⟨q0, s0, q1, s1, q2, s2, rfl, hat⟩
  have hkb : k b4 = none := (hle2.trans hle3).none hb4
  have hb42 : b4 ≠ b2 := fun e => by rw [e, hle3 _ _ hk2] at hb4; cases hb4
  have hb43 : b4 ≠ b3 := fun e => by rw [e, hk3] at hb4; cases hb4
  repeat (first | refine cg_seq ?_ | refine rg_nil ?_ | refine eg_then ?_ | refine qsp ?_)
  cases q6 : thereO t.openV b.pid
  · have hslot : ∀ h : at' < t.openV.length, (t.openV[at'].pid == b.pid) = false := fun h => by
      have hn : ¬ thereO t.openV b.pid = true := by rw [q6]; decide
      rw [there_iff] at hn
      simp only [beq_eq_false_iff_ne]
      intro e
      subst hat
      exact hn ⟨h, e⟩
    by_cases hlt : at' < t.openV.length
    · obtain ⟨bx, ox, cx, ea0, ⟨ecx, hox⟩, hcx⟩ := ht.o.el at' t.openV[at'] (List.getElem?_eq_getElem hlt)
      subst ecx
      subst ea0
      obtain ⟨o0, o1⟩ := OpenT.parts hcx
      refine cg_any (by kernel_rfl) rfl ?_
      repeat (first | refine qwp ?_ | refine qwn ?_ | refine qwl ?_ | refine qwf ?_)
      rw [show decide ((at' : Int) < (t.openV.length : Int)) = true from decide_eq_true (by omega)]
      repeat (first | refine qwp ?_ | refine qwi ?_ | refine qwl ?_ | refine qwf ?_ | (refine wn rfl ?_; refine eg_then ?_))
      rw [hslot hlt]
      skip
      repeat (first | refine cg_seq ?_ | refine cg_region ?_ | refine rg_nil ?_ | refine eg_then ?_ | refine qsp ?_ | refine qsl ?_ | refine qsf ?_)
      refine rs rfl rfl (loc_det rfl (d_pre ht.o rfl rfl rfl hpl)) ?_
      refine raps2 rfl rfl rfl rfl rfl rfl rfl rfl (row_nil _ _ _ _) (ht0.o.take at') hle (fun k cs x h => OpenT.one k cs x h) rfl rfl (by rw [List.length_take]; unfold maxLen; omega) (by rw [List.length_take]; omega) ?_
      intro v5 k5 css hp5 hrow5 hturn5
      obtain ⟨hle5, hap5⟩ := hturn5 k4 (Le.refl _) (apart_nil _ _ _)
      rw [Nat.zero_add, List.nil_append] at hrow5
      have ct5 := ct.le hle5
      repeat (first | refine cg_seq ?_ | refine cg_region ?_ | refine rg_nil ?_ | refine eg_then ?_ | refine qsp ?_ | refine qsg ?_)
      refine rb rfl rfl rfl rfl (a_alloc rfl) ?_; intro b8 k8 hb8 hN8 hle8 hk8
      refine rw1 (vs := t.cs _ c0 a1 c1 a2 c2) rfl rfl rfl rfl rfl rfl rfl hk8 rfl (.inl hN8) ?_ ?_
      · simp [Tx.cs, Value.oneCell']
      intro k9 ht9 hk9
      have hle9 : Le k5 k9 := ht9 k5 hle8 hb8
      have hle49 : Le k4 k9 := hle5.trans hle9
      have ct9 := ct.le hle49
      have cbt9 := cbt.le hle49
      have hk4_9 := hle49 _ _ hk4
      have hle09 : Le k k9 := hle.trans hle49
      have hrow9 := hrow5.le hle9
      have hv8 : v5.ownBlock ≠ some b8 := fun e => by obtain ⟨_, ob, ho⟩ := hrow5.block e; rw [hb8] at ho; cases ho
      have hv4 : v5.ownBlock ≠ some b4 := fun e => by have := hap5 b4 e; rw [hk4] at this; cases this
      have hv2 : v5.ownBlock ≠ some b2 := fun e => by have := hap5 b2 e; rw [hle4 _ _ (hle3 _ _ hk2)] at this; cases this
      have hv3 : v5.ownBlock ≠ some b3 := fun e => by have := hap5 b3 e; rw [hle4 _ _ hk3] at this; cases this
      have hb48 : b4 ≠ b8 := fun e => by rw [← e, hle5 _ _ hk4] at hb8; cases hb8
      have hb08 : k b8 = none := (hle.trans hle5).none hb8
      have hvk : Apart k v5 := fun g hg => hle.none (hap5 g hg)
      obtain ⟨z0, z1, z2⟩ := Tx.parts ct9
      obtain ⟨p0, p1, p2, p3, p4, p5, p6, p7, p8, p9⟩ := Batch.parts cbt9
      repeat (first | refine cg_seq ?_ | refine cg_region ?_ | refine rg_nil ?_ | refine eg_then ?_ | refine qsp ?_ | refine qsl ?_ | refine qsf ?_)
      cases q0 : (b.ctl == 0)
      · have q0' : ¬ b.ctl = 0 := by simpa using q0
        repeat (first | refine cg_seq ?_ | refine cg_region ?_ | refine rg_nil ?_ | refine eg_then ?_ | refine qsp ?_ | refine cg_cond_true rfl ?_ | refine cg_cond_false rfl ?_ | refine cg_skip ?_)
        refine qsg (hc := ct9) ?_
        skip
        refine rw1 (vs := t.cs _ c0 a1 c1 a2 c2) rfl rfl rfl rfl rfl rfl rfl hk4_9 rfl (.inl hN4) ?_ ?_
        · simp [Tx.cs, Value.oneCell']
        intro k10 ht10 hk10
        have c10 := cells_at (vs := t.cs _ c0 a1 c1 a2 c2) hk10 rfl
        repeat (first | refine rg_nil ?_ | refine eg_then ?_ | refine cg_ret ?_ | refine eg_then_ret ?_)
        exact eg_returnC rfl rfl rfl c10 rfl (hgood _ _ _ _ _ _ _ t (by simp [putT, q0', q6]) (ht0.le (ht10 k hle09 hkb)))
      have q0' : b.ctl = 0 := by simpa using q0
      repeat (first | refine cg_seq ?_ | refine cg_region ?_ | refine qsp ?_ | refine qsl ?_ | refine qsf ?_ | refine cg_cond_true rfl ?_)
      cases q1 : b.txn
      · repeat (first | refine cg_seq ?_ | refine cg_region ?_ | refine rg_nil ?_ | refine eg_then ?_ | refine qsp ?_ | refine qso ?_ | refine cg_cond_true rfl ?_)
        refine qsg (hc := ct9) ?_
        skip
        refine rw1 (vs := t.cs _ c0 a1 c1 a2 c2) rfl rfl rfl rfl rfl rfl rfl hk4_9 rfl (.inl hN4) ?_ ?_
        · simp [Tx.cs, Value.oneCell']
        intro k10 ht10 hk10
        have c10 := cells_at (vs := t.cs _ c0 a1 c1 a2 c2) hk10 rfl
        repeat (first | refine rg_nil ?_ | refine eg_then ?_ | refine cg_ret ?_ | refine eg_then_ret ?_)
        exact eg_returnC rfl rfl rfl c10 rfl (hgood _ _ _ _ _ _ _ t (by simp [putT, q0', q1]) (ht0.le (ht10 k hle09 hkb)))
      repeat (first | refine cg_seq ?_ | refine cg_region ?_ | refine rg_nil ?_ | refine eg_then ?_ | refine qsp ?_ | refine qsl ?_ | refine qsf ?_ | refine cg_cond_false rfl ?_ | refine cg_skip ?_)
      refine rs rfl rfl (loc_det rfl (d_lit (cells := (⟨b.pid, b.base⟩ : OpenT).vs) rfl rfl rfl)) ?_
      refine rb rfl rfl rfl rfl (a_slice (cells := (⟨b.pid, b.base⟩ : OpenT).vs) rfl rfl rfl rfl (by kernel_rfl) rfl) ?_
      intro b11 k11 hb11 hN11 hle11 hk11
      have c11 := cells_at (vs := (⟨b.pid, b.base⟩ : OpenT).vs) hk11 rfl
      refine rap rfl rfl rfl rfl rfl rfl rfl (hrow9.le hle11) c11 rfl (by simp [OpenT.vs, Value.oneCell']) rfl rfl (by rw [List.length_take]; unfold maxLen; omega) (by rw [List.length_take]; omega) ?_
      intro v12 k12 hrow12 hturn12
      obtain ⟨hleH12, hapH12⟩ := hturn12 (delV k9 v5) ((delV_le _ _).trans hle11) (fun g hg => delV_own hg)
      obtain ⟨hle12, hap12⟩ := hturn12 k (hle09.trans hle11) hvk
      have ct12 := (ct9.delV hv2).le hleH12
      obtain ⟨z0, z1, z2⟩ := Tx.parts ct12
      have ht12 := ht0.le hle12
      repeat (first | refine cg_seq ?_ | refine cg_region ?_ | refine rg_nil ?_ | refine eg_then ?_ | refine qsp ?_ | refine qsl ?_ | refine qsf ?_)
      refine rs rfl rfl (loc_det rfl (d_suf ht12.o rfl rfl rfl hpl)) ?_
      refine raps2 rfl rfl rfl rfl rfl rfl rfl rfl hrow12 (ht0.o.drop hpl) hle12 (fun k cs x h => OpenT.one k cs x h) rfl rfl (by rw [List.length_take, List.length_drop]; unfold maxLen; omega) (by rw [List.length_take, List.length_drop]; omega) ?_
      intro v13 k13 css2 hp13 hrow13 hturn13
      obtain ⟨hleH13, hapH13⟩ := hturn13 (delV k9 v5) hleH12 hapH12
      obtain ⟨hle13, _⟩ := hturn13 k hle12 hap12
      obtain ⟨L, hL⟩ : ∃ L, L = t.openV.take at' ++ [(⟨b.pid, b.base⟩ : OpenT)] ++ t.openV.drop at' := ⟨_, rfl⟩
      have hpA : Pieces tOpenT k (css ++ [(⟨b.pid, b.base⟩ : OpenT).vs] ++ css2) L := by
        rw [hL]; exact (hp5.append (Pieces.one (T := tOpenT) ⟨rfl, hok.2.2.2.2.1, hok.1⟩)).append hp13
      have hrowA : Row F.w0.heap.size k13 72 2 v13 L.length (css ++ [(⟨b.pid, b.base⟩ : OpenT).vs] ++ css2).flatten := by
        have e1 : L.length = (t.openV.take at').length + 1 + (t.openV.drop at').length := by rw [hL]; simp only [List.length_append, List.length_cons, List.length_nil]
        have e2 : (css ++ [(⟨b.pid, b.base⟩ : OpenT).vs] ++ css2).flatten = css.flatten ++ (⟨b.pid, b.base⟩ : OpenT).vs ++ css2.flatten := by simp
        rw [e1, e2]; exact hrow13
      obtain ⟨a6, c6, e6, h6⟩ := Row.sls (T := tOpenT) hrowA (hpA.le hle13)
      have hne : ∀ ad, a6 = some ad → (delV k9 v5) ad.block = none := fun ad e => hapH13 ad.block (by rw [e6, e]; rfl)
      have hH8 : (delV k9 v5) b8 = some _ := (delV_of hv8).trans hk9
      have hH4 : (delV k9 v5) b4 = some _ := (delV_of hv4).trans hk4_9
      rw [show (t.openV.take at').length + 1 + (t.openV.drop at').length = L.length by rw [hL]; simp only [List.length_append, List.length_cons, List.length_nil]] at *
      rw [e6]
      repeat (first | refine cg_seq ?_ | refine cg_region ?_ | refine rg_nil ?_ | refine eg_then ?_ | refine qsp ?_ | refine qsf ?_)
      refine rw0 rfl rfl rfl rfl rfl rfl rfl rfl (hleH13 _ _ hH8) ?_ (.inl hN8) ?_
      · show 0 < 3
        omega
      intro k14 ht14 hk14
      have c14 := cells_at (vs := (⟨L, t.gone, t.done⟩ : Tx).cs a6 c6 a1 c1 a2 c2) hk14 rfl
      repeat (first | refine cg_seq ?_ | refine cg_region ?_ | refine rg_nil ?_ | refine eg_then ?_ | refine qsg ?_)
      refine rw1 (vs := (⟨L, t.gone, t.done⟩ : Tx).cs a6 c6 a1 c1 a2 c2) rfl rfl rfl rfl rfl rfl rfl (turn1_get ht14 hb48 (hleH13 _ _ hH4)) rfl (.inl hN4) ?_ ?_
      · simp [Tx.cs, Value.oneCell']
      intro k15 ht15 hk15
      have c15 := cells_at (vs := (⟨L, t.gone, t.done⟩ : Tx).cs a6 c6 a1 c1 a2 c2) hk15 rfl
      have hle15 : Le k k15 := ht15 k (ht14 k hle13 hb08) hkb
      repeat (first | refine rg_nil ?_ | refine eg_then ?_ | refine cg_ret ?_ | refine eg_then_ret ?_)
      refine eg_returnC rfl rfl rfl c15 rfl (hgood _ _ _ _ _ _ _ ⟨L, t.gone, t.done⟩ (by simp [putT, q0', q1, q6, opensT, hL, hat]) ⟨?_, ht0.g.le hle15, ht0.d.le hle15⟩)
      exact sl_turn (sl_turn h6 ht14 (fun ad e h => by have := hne ad e; rw [h, hH8] at this; cases this) (fun _ _ h => h)) ht15 (fun ad e h => by have := hne ad e; rw [h, hH4] at this; cases this) (fun _ _ h => h)
    · refine cg_any (by kernel_rfl) rfl ?_
      repeat (first | refine qwp ?_ | refine qwn ?_ | refine qwl ?_ | refine qwf ?_)
      rw [show decide ((at' : Int) < (t.openV.length : Int)) = false from decide_eq_false (by omega)]
      repeat (first | refine qwp ?_ | refine qwo ?_ | (refine wn rfl ?_; refine eg_then ?_))
      repeat (first | refine cg_seq ?_ | refine cg_region ?_ | refine rg_nil ?_ | refine eg_then ?_ | refine qsp ?_ | refine qsl ?_ | refine qsf ?_)
      refine rs rfl rfl (loc_det rfl (d_pre ht.o rfl rfl rfl hpl)) ?_
      refine raps2 rfl rfl rfl rfl rfl rfl rfl rfl (row_nil _ _ _ _) (ht0.o.take at') hle (fun k cs x h => OpenT.one k cs x h) rfl rfl (by rw [List.length_take]; unfold maxLen; omega) (by rw [List.length_take]; omega) ?_
      intro v5 k5 css hp5 hrow5 hturn5
      obtain ⟨hle5, hap5⟩ := hturn5 k4 (Le.refl _) (apart_nil _ _ _)
      rw [Nat.zero_add, List.nil_append] at hrow5
      have ct5 := ct.le hle5
      repeat (first | refine cg_seq ?_ | refine cg_region ?_ | refine rg_nil ?_ | refine eg_then ?_ | refine qsp ?_ | refine qsg ?_)
      refine rb rfl rfl rfl rfl (a_alloc rfl) ?_; intro b8 k8 hb8 hN8 hle8 hk8
      refine rw1 (vs := t.cs _ c0 a1 c1 a2 c2) rfl rfl rfl rfl rfl rfl rfl hk8 rfl (.inl hN8) ?_ ?_
      · simp [Tx.cs, Value.oneCell']
      intro k9 ht9 hk9
      have hle9 : Le k5 k9 := ht9 k5 hle8 hb8
      have hle49 : Le k4 k9 := hle5.trans hle9
      have ct9 := ct.le hle49
      have cbt9 := cbt.le hle49
      have hk4_9 := hle49 _ _ hk4
      have hle09 : Le k k9 := hle.trans hle49
      have hrow9 := hrow5.le hle9
      have hv8 : v5.ownBlock ≠ some b8 := fun e => by obtain ⟨_, ob, ho⟩ := hrow5.block e; rw [hb8] at ho; cases ho
      have hv4 : v5.ownBlock ≠ some b4 := fun e => by have := hap5 b4 e; rw [hk4] at this; cases this
      have hv2 : v5.ownBlock ≠ some b2 := fun e => by have := hap5 b2 e; rw [hle4 _ _ (hle3 _ _ hk2)] at this; cases this
      have hv3 : v5.ownBlock ≠ some b3 := fun e => by have := hap5 b3 e; rw [hle4 _ _ hk3] at this; cases this
      have hb48 : b4 ≠ b8 := fun e => by rw [← e, hle5 _ _ hk4] at hb8; cases hb8
      have hb08 : k b8 = none := (hle.trans hle5).none hb8
      have hvk : Apart k v5 := fun g hg => hle.none (hap5 g hg)
      obtain ⟨z0, z1, z2⟩ := Tx.parts ct9
      obtain ⟨p0, p1, p2, p3, p4, p5, p6, p7, p8, p9⟩ := Batch.parts cbt9
      repeat (first | refine cg_seq ?_ | refine cg_region ?_ | refine rg_nil ?_ | refine eg_then ?_ | refine qsp ?_ | refine qsl ?_ | refine qsf ?_)
      cases q0 : (b.ctl == 0)
      · have q0' : ¬ b.ctl = 0 := by simpa using q0
        repeat (first | refine cg_seq ?_ | refine cg_region ?_ | refine rg_nil ?_ | refine eg_then ?_ | refine qsp ?_ | refine cg_cond_true rfl ?_ | refine cg_cond_false rfl ?_ | refine cg_skip ?_)
        refine qsg (hc := ct9) ?_
        skip
        refine rw1 (vs := t.cs _ c0 a1 c1 a2 c2) rfl rfl rfl rfl rfl rfl rfl hk4_9 rfl (.inl hN4) ?_ ?_
        · simp [Tx.cs, Value.oneCell']
        intro k10 ht10 hk10
        have c10 := cells_at (vs := t.cs _ c0 a1 c1 a2 c2) hk10 rfl
        repeat (first | refine rg_nil ?_ | refine eg_then ?_ | refine cg_ret ?_ | refine eg_then_ret ?_)
        exact eg_returnC rfl rfl rfl c10 rfl (hgood _ _ _ _ _ _ _ t (by simp [putT, q0', q6]) (ht0.le (ht10 k hle09 hkb)))
      have q0' : b.ctl = 0 := by simpa using q0
      repeat (first | refine cg_seq ?_ | refine cg_region ?_ | refine qsp ?_ | refine qsl ?_ | refine qsf ?_ | refine cg_cond_true rfl ?_)
      cases q1 : b.txn
      · repeat (first | refine cg_seq ?_ | refine cg_region ?_ | refine rg_nil ?_ | refine eg_then ?_ | refine qsp ?_ | refine qso ?_ | refine cg_cond_true rfl ?_)
        refine qsg (hc := ct9) ?_
        skip
        refine rw1 (vs := t.cs _ c0 a1 c1 a2 c2) rfl rfl rfl rfl rfl rfl rfl hk4_9 rfl (.inl hN4) ?_ ?_
        · simp [Tx.cs, Value.oneCell']
        intro k10 ht10 hk10
        have c10 := cells_at (vs := t.cs _ c0 a1 c1 a2 c2) hk10 rfl
        repeat (first | refine rg_nil ?_ | refine eg_then ?_ | refine cg_ret ?_ | refine eg_then_ret ?_)
        exact eg_returnC rfl rfl rfl c10 rfl (hgood _ _ _ _ _ _ _ t (by simp [putT, q0', q1]) (ht0.le (ht10 k hle09 hkb)))
      repeat (first | refine cg_seq ?_ | refine cg_region ?_ | refine rg_nil ?_ | refine eg_then ?_ | refine qsp ?_ | refine qsl ?_ | refine qsf ?_ | refine cg_cond_false rfl ?_ | refine cg_skip ?_)
      refine rs rfl rfl (loc_det rfl (d_lit (cells := (⟨b.pid, b.base⟩ : OpenT).vs) rfl rfl rfl)) ?_
      refine rb rfl rfl rfl rfl (a_slice (cells := (⟨b.pid, b.base⟩ : OpenT).vs) rfl rfl rfl rfl (by kernel_rfl) rfl) ?_
      intro b11 k11 hb11 hN11 hle11 hk11
      have c11 := cells_at (vs := (⟨b.pid, b.base⟩ : OpenT).vs) hk11 rfl
      refine rap rfl rfl rfl rfl rfl rfl rfl (hrow9.le hle11) c11 rfl (by simp [OpenT.vs, Value.oneCell']) rfl rfl (by rw [List.length_take]; unfold maxLen; omega) (by rw [List.length_take]; omega) ?_
      intro v12 k12 hrow12 hturn12
      obtain ⟨hleH12, hapH12⟩ := hturn12 (delV k9 v5) ((delV_le _ _).trans hle11) (fun g hg => delV_own hg)
      obtain ⟨hle12, hap12⟩ := hturn12 k (hle09.trans hle11) hvk
      have ct12 := (ct9.delV hv2).le hleH12
      obtain ⟨z0, z1, z2⟩ := Tx.parts ct12
      have ht12 := ht0.le hle12
      repeat (first | refine cg_seq ?_ | refine cg_region ?_ | refine rg_nil ?_ | refine eg_then ?_ | refine qsp ?_ | refine qsl ?_ | refine qsf ?_)
      refine rs rfl rfl (loc_det rfl (d_suf ht12.o rfl rfl rfl hpl)) ?_
      refine raps2 rfl rfl rfl rfl rfl rfl rfl rfl hrow12 (ht0.o.drop hpl) hle12 (fun k cs x h => OpenT.one k cs x h) rfl rfl (by rw [List.length_take, List.length_drop]; unfold maxLen; omega) (by rw [List.length_take, List.length_drop]; omega) ?_
      intro v13 k13 css2 hp13 hrow13 hturn13
      obtain ⟨hleH13, hapH13⟩ := hturn13 (delV k9 v5) hleH12 hapH12
      obtain ⟨hle13, _⟩ := hturn13 k hle12 hap12
      obtain ⟨L, hL⟩ : ∃ L, L = t.openV.take at' ++ [(⟨b.pid, b.base⟩ : OpenT)] ++ t.openV.drop at' := ⟨_, rfl⟩
      have hpA : Pieces tOpenT k (css ++ [(⟨b.pid, b.base⟩ : OpenT).vs] ++ css2) L := by
        rw [hL]; exact (hp5.append (Pieces.one (T := tOpenT) ⟨rfl, hok.2.2.2.2.1, hok.1⟩)).append hp13
      have hrowA : Row F.w0.heap.size k13 72 2 v13 L.length (css ++ [(⟨b.pid, b.base⟩ : OpenT).vs] ++ css2).flatten := by
        have e1 : L.length = (t.openV.take at').length + 1 + (t.openV.drop at').length := by rw [hL]; simp only [List.length_append, List.length_cons, List.length_nil]
        have e2 : (css ++ [(⟨b.pid, b.base⟩ : OpenT).vs] ++ css2).flatten = css.flatten ++ (⟨b.pid, b.base⟩ : OpenT).vs ++ css2.flatten := by simp
        rw [e1, e2]; exact hrow13
      obtain ⟨a6, c6, e6, h6⟩ := Row.sls (T := tOpenT) hrowA (hpA.le hle13)
      have hne : ∀ ad, a6 = some ad → (delV k9 v5) ad.block = none := fun ad e => hapH13 ad.block (by rw [e6, e]; rfl)
      have hH8 : (delV k9 v5) b8 = some _ := (delV_of hv8).trans hk9
      have hH4 : (delV k9 v5) b4 = some _ := (delV_of hv4).trans hk4_9
      rw [show (t.openV.take at').length + 1 + (t.openV.drop at').length = L.length by rw [hL]; simp only [List.length_append, List.length_cons, List.length_nil]] at *
      rw [e6]
      repeat (first | refine cg_seq ?_ | refine cg_region ?_ | refine rg_nil ?_ | refine eg_then ?_ | refine qsp ?_ | refine qsf ?_)
      refine rw0 rfl rfl rfl rfl rfl rfl rfl rfl (hleH13 _ _ hH8) ?_ (.inl hN8) ?_
      · show 0 < 3
        omega
      intro k14 ht14 hk14
      have c14 := cells_at (vs := (⟨L, t.gone, t.done⟩ : Tx).cs a6 c6 a1 c1 a2 c2) hk14 rfl
      repeat (first | refine cg_seq ?_ | refine cg_region ?_ | refine rg_nil ?_ | refine eg_then ?_ | refine qsg ?_)
      refine rw1 (vs := (⟨L, t.gone, t.done⟩ : Tx).cs a6 c6 a1 c1 a2 c2) rfl rfl rfl rfl rfl rfl rfl (turn1_get ht14 hb48 (hleH13 _ _ hH4)) rfl (.inl hN4) ?_ ?_
      · simp [Tx.cs, Value.oneCell']
      intro k15 ht15 hk15
      have c15 := cells_at (vs := (⟨L, t.gone, t.done⟩ : Tx).cs a6 c6 a1 c1 a2 c2) hk15 rfl
      have hle15 : Le k k15 := ht15 k (ht14 k hle13 hb08) hkb
      repeat (first | refine rg_nil ?_ | refine eg_then ?_ | refine cg_ret ?_ | refine eg_then_ret ?_)
      refine eg_returnC rfl rfl rfl c15 rfl (hgood _ _ _ _ _ _ _ ⟨L, t.gone, t.done⟩ (by simp [putT, q0', q1, q6, opensT, hL, hat]) ⟨?_, ht0.g.le hle15, ht0.d.le hle15⟩)
      exact sl_turn (sl_turn h6 ht14 (fun ad e h => by have := hne ad e; rw [h, hH8] at this; cases this) (fun _ _ h => h)) ht15 (fun ad e h => by have := hne ad e; rw [h, hH4] at this; cases this) (fun _ _ h => h)
  · have hlt : at' < t.openV.length := by rw [hat]; exact thereO_lt q6
    have hpid : (t.openV[at'].pid == b.pid) = true := by
      obtain ⟨h1, h2⟩ := there_iff.1 q6
      subst hat
      exact beq_iff_eq.2 h2
    obtain ⟨bx, ox, cx, ea0, ⟨ecx, hox⟩, hcx⟩ := ht.o.el at' t.openV[at'] (List.getElem?_eq_getElem hlt)
    subst ecx
    subst ea0
    obtain ⟨o0, o1⟩ := OpenT.parts hcx
    refine cg_any (by kernel_rfl) rfl ?_
    repeat (first | refine qwp ?_ | refine qwn ?_ | refine qwl ?_ | refine qwf ?_)
    rw [show decide ((at' : Int) < (t.openV.length : Int)) = true from decide_eq_true (by omega)]
    repeat (first | refine qwp ?_ | refine qwi ?_ | refine qwl ?_ | refine qwf ?_ | (refine wn rfl ?_; refine eg_then ?_))
    rw [hpid]
    skip
    repeat (first | refine cg_seq ?_ | refine cg_region ?_ | refine rg_nil ?_ | refine eg_then ?_ | refine qsp ?_ | refine qsl ?_ | refine qsf ?_)
    refine rs rfl rfl (loc_det rfl (d_pre ht.o rfl rfl rfl hpl)) ?_
    refine raps2 rfl rfl rfl rfl rfl rfl rfl rfl (row_nil _ _ _ _) (ht0.o.take at') hle (fun k cs x h => OpenT.one k cs x h) rfl rfl (by rw [List.length_take]; unfold maxLen; omega) (by rw [List.length_take]; omega) ?_
    intro v5 k5 css hp5 hrow5 hturn5
    obtain ⟨hle5, hap5⟩ := hturn5 k4 (Le.refl _) (apart_nil _ _ _)
    rw [Nat.zero_add, List.nil_append] at hrow5
    have ct5 := ct.le hle5
    repeat (first | refine cg_seq ?_ | refine cg_region ?_ | refine rg_nil ?_ | refine eg_then ?_ | refine qsp ?_ | refine qsg ?_)
    refine rb rfl rfl rfl rfl (a_alloc rfl) ?_; intro b8 k8 hb8 hN8 hle8 hk8
    refine rw1 (vs := t.cs _ c0 a1 c1 a2 c2) rfl rfl rfl rfl rfl rfl rfl hk8 rfl (.inl hN8) ?_ ?_
    · simp [Tx.cs, Value.oneCell']
    intro k9 ht9 hk9
    have hle9 : Le k5 k9 := ht9 k5 hle8 hb8
    have hle49 : Le k4 k9 := hle5.trans hle9
    have ct9 := ct.le hle49
    have cbt9 := cbt.le hle49
    have hk4_9 := hle49 _ _ hk4
    have hle09 : Le k k9 := hle.trans hle49
    have hrow9 := hrow5.le hle9
    have hv8 : v5.ownBlock ≠ some b8 := fun e => by obtain ⟨_, ob, ho⟩ := hrow5.block e; rw [hb8] at ho; cases ho
    have hv4 : v5.ownBlock ≠ some b4 := fun e => by have := hap5 b4 e; rw [hk4] at this; cases this
    have hv2 : v5.ownBlock ≠ some b2 := fun e => by have := hap5 b2 e; rw [hle4 _ _ (hle3 _ _ hk2)] at this; cases this
    have hv3 : v5.ownBlock ≠ some b3 := fun e => by have := hap5 b3 e; rw [hle4 _ _ hk3] at this; cases this
    have hb48 : b4 ≠ b8 := fun e => by rw [← e, hle5 _ _ hk4] at hb8; cases hb8
    have hb08 : k b8 = none := (hle.trans hle5).none hb8
    have hvk : Apart k v5 := fun g hg => hle.none (hap5 g hg)
    obtain ⟨z0, z1, z2⟩ := Tx.parts ct9
    obtain ⟨p0, p1, p2, p3, p4, p5, p6, p7, p8, p9⟩ := Batch.parts cbt9
    repeat (first | refine cg_seq ?_ | refine cg_region ?_ | refine rg_nil ?_ | refine eg_then ?_ | refine qsp ?_ | refine qsl ?_ | refine qsf ?_)
    cases q0 : (b.ctl == 0)
    rotate_left
    · have q0' : b.ctl = 0 := by simpa using q0
      repeat (first | refine cg_seq ?_ | refine cg_region ?_ | refine qsp ?_ | refine qsl ?_ | refine qsf ?_ | refine cg_cond_true rfl ?_)
      cases q1 : b.txn
      · repeat (first | refine cg_seq ?_ | refine cg_region ?_ | refine rg_nil ?_ | refine eg_then ?_ | refine qsp ?_ | refine qso ?_ | refine cg_cond_true rfl ?_)
        refine qsg (hc := ct9) ?_
        skip
        refine rw1 (vs := t.cs _ c0 a1 c1 a2 c2) rfl rfl rfl rfl rfl rfl rfl hk4_9 rfl (.inl hN4) ?_ ?_
        · simp [Tx.cs, Value.oneCell']
        intro k10 ht10 hk10
        have c10 := cells_at (vs := t.cs _ c0 a1 c1 a2 c2) hk10 rfl
        repeat (first | refine rg_nil ?_ | refine eg_then ?_ | refine cg_ret ?_ | refine eg_then_ret ?_)
        exact eg_returnC rfl rfl rfl c10 rfl (hgood _ _ _ _ _ _ _ t (by simp [putT, q0', q1]) (ht0.le (ht10 k hle09 hkb)))
      · repeat (first | refine cg_seq ?_ | refine cg_region ?_ | refine rg_nil ?_ | refine eg_then ?_ | refine qsp ?_ | refine cg_cond_true rfl ?_)
        refine qsg (hc := ct9) ?_
        skip
        refine rw1 (vs := t.cs _ c0 a1 c1 a2 c2) rfl rfl rfl rfl rfl rfl rfl hk4_9 rfl (.inl hN4) ?_ ?_
        · simp [Tx.cs, Value.oneCell']
        intro k10 ht10 hk10
        have c10 := cells_at (vs := t.cs _ c0 a1 c1 a2 c2) hk10 rfl
        repeat (first | refine rg_nil ?_ | refine eg_then ?_ | refine cg_ret ?_ | refine eg_then_ret ?_)
        exact eg_returnC rfl rfl rfl c10 rfl (hgood _ _ _ _ _ _ _ t (by simp [putT, q0', q6]) (ht0.le (ht10 k hle09 hkb)))
    have q0' : ¬ b.ctl = 0 := by simpa using q0
    have hcx9 := hcx.le hle49
    obtain ⟨o0, o1⟩ := OpenT.parts hcx9
    obtain ⟨gg, hgg⟩ : ∃ gg : Gone, gg = ⟨b.pid, b.seq, t.openV[at'].first, b.base⟩ := ⟨_, rfl⟩
    have hgo : goneOf t b = gg := by subst hat; simp [goneOf, hgg, List.getElem?_eq_getElem hlt]
    have hgok : gg.ok := by rw [hgg]; exact ⟨hok.2.2.2.2.1, hok.2.2.2.2.2.2.1, hox.2, hok.1⟩
    repeat (first | refine cg_seq ?_ | refine cg_region ?_ | refine rg_nil ?_ | refine eg_then ?_ | refine qsp ?_ | refine cg_cond_false rfl ?_ | refine cg_skip ?_)
    refine cg_fresh 14 [9] (by kernel_rfl) (by kernel_rfl) rfl rfl rfl ?_
    dsimp only [List.take]
    repeat (first | refine qfp ?_ | refine qfi ?_ | refine qfl ?_ | refine qff ?_)
    refine fs_s rfl (loc_det rfl (d_lit (cells := gg.vs) rfl rfl (by rw [hgg]; rfl))) rfl ?_
    refine fs_newN rfl rfl (a_alloc rfl) (fun _ => rfl) ?_
    refine fs_nil ?_
    intro k10 vs10 hle10 hvs10 _ _
    obtain ⟨b9, e9, hk9b, hn9, hN9⟩ := hvs10 9 _ rfl
    clear hvs10
    dsimp only [List.drop]
    simp only [nameE, nameP]
    rw [e9]
    refine rw1 (vs := gg.vs) rfl rfl rfl rfl rfl rfl rfl hk9b rfl (.inl hN9) ?_ ?_
    · simp [Gone.vs, Value.oneCell']
    intro k11 ht11 hk11
    have hle11 : Le k9 k11 := ht11 k9 hle10 hn9
    have hv9 : v5.ownBlock ≠ some b9 := fun e => by obtain ⟨_, ob, ho⟩ := hrow9.block e; rw [hn9] at ho; cases ho
    have hrow11 := hrow9.le hle11
    have ct11 := ct9.le hle11
    have hle011 : Le k k11 := hle09.trans hle11
    have ht11' := ht0.le hle011
    obtain ⟨z0, z1, z2⟩ := Tx.parts ct11
    repeat (first | refine cg_seq ?_ | refine cg_region ?_ | refine rg_nil ?_ | refine eg_then ?_ | refine qsp ?_ | refine qsa ?_ | refine qsl ?_ | refine qsf ?_)
    rw [show (at' : Int) + 1 = ((at' + 1 : Nat) : Int) by omega]
    refine rs rfl rfl (loc_det rfl (d_suf ht11'.o rfl rfl rfl hlt)) ?_
    refine raps2 rfl rfl rfl rfl rfl rfl rfl rfl hrow11 (ht0.o.drop hlt) hle011 (fun k cs x h => OpenT.one k cs x h) rfl rfl (by rw [List.length_take, List.length_drop]; unfold maxLen; omega) (by rw [List.length_take, List.length_drop]; omega) ?_
    intro v13 k13 css2 hp13 hrow13 hturn13
    obtain ⟨hleH13, hapH13⟩ := hturn13 (delV k11 v5) (delV_le _ _) (fun g hg => delV_own hg)
    obtain ⟨hle13, _⟩ := hturn13 k hle011 hvk
    obtain ⟨L, hL⟩ : ∃ L, L = t.openV.take at' ++ t.openV.drop (at' + 1) := ⟨_, rfl⟩
    have hLs : lessT t b = L := by subst hat; rw [hL]; rfl
    have hpA : Pieces tOpenT k (css ++ css2) L := by rw [hL]; exact hp5.append hp13
    have hrowA : Row F.w0.heap.size k13 72 2 v13 L.length (css ++ css2).flatten := by
      have e1 : L.length = (t.openV.take at').length + (t.openV.drop (at' + 1)).length := by rw [hL, List.length_append]
      have e2 : (css ++ css2).flatten = css.flatten ++ css2.flatten := by simp
      rw [e1, e2]; exact hrow13
    obtain ⟨a6, c6, e6, h6⟩ := Row.sls (T := tOpenT) hrowA (hpA.le hle13)
    have hne : ∀ ad, a6 = some ad → (delV k11 v5) ad.block = none := fun ad e => hapH13 ad.block (by rw [e6, e]; rfl)
    have hH8 : (delV k11 v5) b8 = some _ := (delV_of hv8).trans (hle11 _ _ hk9)
    have hH4 : (delV k11 v5) b4 = some _ := (delV_of hv4).trans (hle11 _ _ hk4_9)
    have hH9 : (delV k11 v5) b9 = some _ := (delV_of hv9).trans hk11
    have hH3 := ((cbt9.le hle11).delV hv3).le hleH13
    have hH2 := (ct11.delV hv2).le hleH13
    have hb89 : b9 ≠ b8 := fun e => by rw [e, hk9] at hn9; cases hn9
    have hb28 : b2 ≠ b8 := fun e => by rw [← e, hle5 _ _ (hle4 _ _ (hle3 _ _ hk2))] at hb8; cases hb8
    have hb38 : b3 ≠ b8 := fun e => by rw [← e, hle5 _ _ (hle4 _ _ hk3)] at hb8; cases hb8
    have hk2_9 := hle49 _ _ (hle4 _ _ (hle3 _ _ hk2))
    have hk3_9 := hle49 _ _ (hle4 _ _ hk3)
    have hH2' : (delV k11 v5) b2 = some _ := (delV_of hv2).trans (hle11 _ _ hk2_9)
    have hH3' : (delV k11 v5) b3 = some _ := (delV_of hv3).trans (hle11 _ _ hk3_9)
    rw [e6]
    repeat (first | refine cg_seq ?_ | refine cg_region ?_ | refine rg_nil ?_ | refine eg_then ?_ | refine qsp ?_ | refine qsf ?_)
    refine rw0 rfl rfl rfl rfl rfl rfl rfl rfl (hleH13 _ _ hH8) ?_ (.inl hN8) ?_
    · show 0 < 3
      omega
    intro k14 ht14 hk14
    have h6_14 := sl_turn h6 ht14 (fun ad e h => by have := hne ad e; rw [h, hH8] at this; cases this) (fun _ _ h => h)
    have ct14 := cells_at (vs := t.cs _ c0 a1 c1 a2 c2) (turn1_get ht14 hb28 (hleH13 _ _ hH2')) rfl
    have cb14 := cells_at (vs := b.cs ab cb) (turn1_get ht14 hb38 (hleH13 _ _ hH3')) rfl
    have cg14 := cells_at (vs := gg.vs) (turn1_get ht14 hb89 (hleH13 _ _ hH9)) rfl
    have hk4_14 := turn1_get ht14 hb48 (hleH13 _ _ hH4)
    have hle14 : Le k k14 := ht14 k hle13 hb08
    obtain ⟨z0, z1, z2⟩ := Tx.parts ct14
    obtain ⟨p0, p1, p2, p3, p4, p5, p6, p7, p8, p9⟩ := Batch.parts cb14
    have ne8 : ∀ ad, a6 = some ad → ad.block ≠ b8 := fun ad e h => by have := hne ad e; rw [h, hH8] at this; cases this
    have ne4 : ∀ ad, a6 = some ad → ad.block ≠ b4 := fun ad e h => by have := hne ad e; rw [h, hH4] at this; cases this
    repeat (first | refine cg_seq ?_ | refine cg_region ?_ | refine rg_nil ?_ | refine eg_then ?_ | refine qsp ?_ | refine qsl ?_ | refine qsf ?_)
    cases q7 : (b.ctl == 1)
    · have q7' : b.ctl = 2 := by
        have : ¬ b.ctl = 1 := by simpa using q7
        omega
      repeat (first | refine cg_seq ?_ | refine cg_region ?_ | refine cg_cond_false rfl ?_)
      refine rb rfl rfl rfl rfl (a_empty rfl) ?_
      intro be k15 hbe hNe hle15 hke
      obtain ⟨z0, z1, z2⟩ := Tx.parts (ct14.le hle15)
      repeat (first | refine qsl ?_ | refine qsf ?_)
      refine raps2 rfl rfl rfl rfl rfl rfl rfl rfl (row_empty hNe hke) ht0.g (hle14.trans hle15) (fun k cs x h => Gone.one k cs x h) rfl rfl (by unfold maxLen; omega) (by omega) ?_
      intro v16 k16 css3 hp16 hrow16 hturn16
      obtain ⟨hle16, hap16⟩ := hturn16 k14 hle15 (fun g hg => by cases hg; exact hbe)
      rw [Nat.zero_add, List.nil_append] at hrow16
      have cg16 := cg14.le hle16
      repeat (first | refine cg_seq ?_ | refine cg_region ?_ | refine rg_nil ?_ | refine eg_then ?_ | refine qsp ?_ | refine qsg ?_)
      refine rb rfl rfl rfl rfl (a_slice (cells := gg.vs) rfl rfl rfl rfl (by kernel_rfl) rfl) ?_
      intro b17 k17 hb17 hN17 hle17 hk17
      have c17 := cells_at (vs := gg.vs) hk17 rfl
      refine rap rfl rfl rfl rfl rfl rfl rfl (hrow16.le hle17) c17 rfl (by simp [Gone.vs, Value.oneCell']) rfl rfl (by unfold maxLen; omega) (by omega) ?_
      intro v18 k18 hrow18 hturn18
      obtain ⟨hle18, hap18⟩ := hturn18 k14 (hle16.trans hle17) hap16
      have hrowB : Row F.w0.heap.size k18 74 4 v18 (t.gone ++ [gg]).length (css3 ++ [gg.vs]).flatten := by
        have e1 : (t.gone ++ [gg]).length = t.gone.length + 1 := by simp
        have e2 : (css3 ++ [gg.vs]).flatten = css3.flatten ++ gg.vs := by simp
        rw [e1, e2]; exact hrow18
      obtain ⟨a7, c7, e7, h7⟩ := Row.sls (T := tGone) hrowB ((hp16.append (Pieces.one (T := tGone) ⟨rfl, hgok⟩)).le (hle14.trans hle18))
      have ne7 : ∀ ad, a7 = some ad → k14 ad.block = none := fun ad e => hap18 ad.block (by rw [e7, e]; rfl)
      rw [e7]
      repeat (first | refine cg_region ?_ | refine rg_nil ?_ | refine eg_then ?_ | refine qsp ?_ | refine qsf ?_)
      refine rw0 rfl rfl rfl rfl rfl rfl rfl rfl (hle18 _ _ hk14) ?_ (.inl hN8) ?_
      · first | (show 1 < 3; omega) | (show 2 < 3; omega)
      intro k19 ht19 hk19
      have h6_19 := sl_turn (h6_14.le hle18) ht19 ne8 (fun _ _ h => h)
      have h7_19 := sl_turn h7 ht19 (fun ad e h => by have := ne7 ad e; rw [h, hk14] at this; cases this) (fun _ _ h => h)
      have hle19 : Le k k19 := ht19 k (hle14.trans hle18) hb08
      have hk4_19 := turn1_get ht19 hb48 (hle18 _ _ hk4_14)
      have c19 := cells_at (vs := (⟨L, t.gone ++ [gg], t.done⟩ : Tx).cs a6 c6 a7 c7 a2 c2) hk19 rfl
      repeat (first | refine cg_seq ?_ | refine cg_region ?_ | refine rg_nil ?_ | refine eg_then ?_ | refine qsg ?_)
      refine rw1 (vs := (⟨L, t.gone ++ [gg], t.done⟩ : Tx).cs a6 c6 a7 c7 a2 c2) rfl rfl rfl rfl rfl rfl rfl hk4_19 rfl (.inl hN4) ?_ ?_
      · simp [Tx.cs, Value.oneCell']
      intro k20 ht20 hk20
      have c20 := cells_at (vs := (⟨L, t.gone ++ [gg], t.done⟩ : Tx).cs a6 c6 a7 c7 a2 c2) hk20 rfl
      have hle20 : Le k k20 := ht20 k hle19 hkb
      repeat (first | refine rg_nil ?_ | refine eg_then ?_ | refine cg_ret ?_)
      refine eg_returnC rfl rfl rfl c20 rfl (hgood _ _ _ _ _ _ _ ⟨L, t.gone ++ [gg], t.done⟩ (by simp [putT, q0', q6, q7', hgo, hLs]) ⟨?_, ?_, ht0.d.le hle20⟩)
      · exact sl_turn h6_19 ht20 ne4 (fun _ _ h => h)
      · exact sl_turn h7_19 ht20 (fun ad e h => by have := ne7 ad e; rw [h, hk4_14] at this; cases this) (fun _ _ h => h)
    · have q7' : b.ctl = 1 := by simpa using q7
      repeat (first | refine cg_seq ?_ | refine cg_region ?_ | refine cg_cond_true rfl ?_)
      refine rb rfl rfl rfl rfl (a_empty rfl) ?_
      intro be k15 hbe hNe hle15 hke
      obtain ⟨z0, z1, z2⟩ := Tx.parts (ct14.le hle15)
      repeat (first | refine qsl ?_ | refine qsf ?_)
      refine raps2 rfl rfl rfl rfl rfl rfl rfl rfl (row_empty hNe hke) ht0.d (hle14.trans hle15) (fun k cs x h => Gone.one k cs x h) rfl rfl (by unfold maxLen; omega) (by omega) ?_
      intro v16 k16 css3 hp16 hrow16 hturn16
      obtain ⟨hle16, hap16⟩ := hturn16 k14 hle15 (fun g hg => by cases hg; exact hbe)
      rw [Nat.zero_add, List.nil_append] at hrow16
      have cg16 := cg14.le hle16
      repeat (first | refine cg_seq ?_ | refine cg_region ?_ | refine rg_nil ?_ | refine eg_then ?_ | refine qsp ?_ | refine qsg ?_)
      refine rb rfl rfl rfl rfl (a_slice (cells := gg.vs) rfl rfl rfl rfl (by kernel_rfl) rfl) ?_
      intro b17 k17 hb17 hN17 hle17 hk17
      have c17 := cells_at (vs := gg.vs) hk17 rfl
      refine rap rfl rfl rfl rfl rfl rfl rfl (hrow16.le hle17) c17 rfl (by simp [Gone.vs, Value.oneCell']) rfl rfl (by unfold maxLen; omega) (by omega) ?_
      intro v18 k18 hrow18 hturn18
      obtain ⟨hle18, hap18⟩ := hturn18 k14 (hle16.trans hle17) hap16
      have hrowB : Row F.w0.heap.size k18 74 4 v18 (t.done ++ [gg]).length (css3 ++ [gg.vs]).flatten := by
        have e1 : (t.done ++ [gg]).length = t.done.length + 1 := by simp
        have e2 : (css3 ++ [gg.vs]).flatten = css3.flatten ++ gg.vs := by simp
        rw [e1, e2]; exact hrow18
      obtain ⟨a7, c7, e7, h7⟩ := Row.sls (T := tGone) hrowB ((hp16.append (Pieces.one (T := tGone) ⟨rfl, hgok⟩)).le (hle14.trans hle18))
      have ne7 : ∀ ad, a7 = some ad → k14 ad.block = none := fun ad e => hap18 ad.block (by rw [e7, e]; rfl)
      rw [e7]
      repeat (first | refine cg_region ?_ | refine rg_nil ?_ | refine eg_then ?_ | refine qsp ?_ | refine qsf ?_)
      refine rw0 rfl rfl rfl rfl rfl rfl rfl rfl (hle18 _ _ hk14) ?_ (.inl hN8) ?_
      · first | (show 1 < 3; omega) | (show 2 < 3; omega)
      intro k19 ht19 hk19
      have h6_19 := sl_turn (h6_14.le hle18) ht19 ne8 (fun _ _ h => h)
      have h7_19 := sl_turn h7 ht19 (fun ad e h => by have := ne7 ad e; rw [h, hk14] at this; cases this) (fun _ _ h => h)
      have hle19 : Le k k19 := ht19 k (hle14.trans hle18) hb08
      have hk4_19 := turn1_get ht19 hb48 (hle18 _ _ hk4_14)
      have c19 := cells_at (vs := (⟨L, t.gone, t.done ++ [gg]⟩ : Tx).cs a6 c6 a1 c1 a7 c7) hk19 rfl
      repeat (first | refine cg_seq ?_ | refine cg_region ?_ | refine rg_nil ?_ | refine eg_then ?_ | refine qsg ?_)
      refine rw1 (vs := (⟨L, t.gone, t.done ++ [gg]⟩ : Tx).cs a6 c6 a1 c1 a7 c7) rfl rfl rfl rfl rfl rfl rfl hk4_19 rfl (.inl hN4) ?_ ?_
      · simp [Tx.cs, Value.oneCell']
      intro k20 ht20 hk20
      have c20 := cells_at (vs := (⟨L, t.gone, t.done ++ [gg]⟩ : Tx).cs a6 c6 a1 c1 a7 c7) hk20 rfl
      have hle20 : Le k k20 := ht20 k hle19 hkb
      repeat (first | refine rg_nil ?_ | refine eg_then ?_ | refine cg_ret ?_)
      refine eg_returnC rfl rfl rfl c20 rfl (hgood _ _ _ _ _ _ _ ⟨L, t.gone, t.done ++ [gg]⟩ (by simp [putT, q0', q6, q7', hgo, hLs]) ⟨?_, ht0.g.le hle20, ?_⟩)
      · exact sl_turn h6_19 ht20 ne4 (fun _ _ h => h)
      · exact sl_turn h7_19 ht20 (fun ad e h => by have := ne7 ad e; rw [h, hk4_14] at this; cases this) (fun _ _ h => h)
end Go.Wm

/-
  A batch put behind transactions, the program's. Conditions: that what is handed in reads as data.
-/
import Derived.Test.YtjonlpdnhbnmmaaGreatY2
import Derived.Test.YtjonlpdnhbnmmaaGreatX7
set_option linter.all false
namespace Go.Wm
open Go.RowKit Go.Proofs
attribute [local irreducible] RG CG EG WA Loc Det Alc CT Exit.then Exit.inBlock Code.wp bodyPost
/-- What is ended by a batch. -/
def goneOf (t : Tx) (b : Batch) : Gone := ⟨b.pid, b.seq, ((t.openV[placeO t.openV b.pid]?).map (·.first)).getD 0, b.base⟩
def opensT (t : Tx) (b : Batch) : Tx := ⟨t.openV.take (placeO t.openV b.pid) ++ ⟨b.pid, b.base⟩ :: t.openV.drop (placeO t.openV b.pid), t.gone, t.done⟩
def lessT (t : Tx) (b : Batch) : List OpenT := t.openV.take (placeO t.openV b.pid) ++ t.openV.drop (placeO t.openV b.pid + 1)
def putT (t : Tx) (b : Batch) : Tx :=
  if b.ctl = 0 then (if (b.txn && !thereO t.openV b.pid) = true then opensT t b else t)
  else if thereO t.openV b.pid = true then (if b.ctl = 2 then ⟨lessT t b, t.gone ++ [goneOf t b], t.done⟩ else ⟨lessT t b, t.gone, t.done ++ [goneOf t b]⟩)
  else t
def putErr (t : Tx) (b : Batch) : Int := if txP t = true then (if chkB b = 0 then (if behindB t b.base = true then 0 else 71) else chkB b) else 1
def noTx : Tx := ⟨[], [], []⟩
def putR (t : Tx) (b : Batch) : Tx := if putErr t b = 0 then putT t b else noTx
def TxVal (t : Tx) (k : PH) (v : Value) : Prop := ∃ a0 c0 a1 c1 a2 c2, v = .agg (t.cs a0 c0 a1 c1 a2 c2).toArray ∧ TxAt k t a0 c0 a1 c1 a2 c2
theorem TxVal.mono {t : Tx} : ∀ k k' v, Le k k' → TxVal t k v → TxVal t k' v := fun k k' v hle ⟨a0, c0, a1, c1, a2, c2, h1, h2⟩ => ⟨a0, c0, a1, c1, a2, c2, h1, h2.le hle⟩
def PutRes (t : Tx) (b : Batch) (k : PH) (v : Value) : Prop := ∃ a0 c0 a1 c1 a2 c2, v = .tuple #[.agg ((putR t b).cs a0 c0 a1 c1 a2 c2).toArray, .int .i64 (putErr t b)] ∧ TxAt k (putR t b) a0 c0 a1 c1 a2 c2
theorem PutRes.mono {t : Tx} {b : Batch} : ∀ k k' v, Le k k' → PutRes t b k v → PutRes t b k' v := fun k k' v hle ⟨a0, c0, a1, c1, a2, c2, h1, h2⟩ => ⟨a0, c0, a1, c1, a2, c2, h1, h2.le hle⟩
theorem noTxAt (k : PH) : TxAt k noTx none 0 none 0 none 0 := ⟨sl_none _ _, sl_none _ _, sl_none _ _⟩
theorem thereO_lt {l : List OpenT} {pid : Int} (h : thereO l pid = true) : placeO l pid < l.length := by
  unfold thereO at h
  have h := of_decide_eq_true h
  cases e : l[placeO l pid]? with
  | none => rw [e] at h; cases h
  | some x => exact (List.getElem?_eq_some_iff.1 e).1
theorem placeO_le (l : List OpenT) (pid : Int) : placeO l pid ≤ l.length := (List.takeWhile_sublist _).length_le
theorem opens_rise {l : List OpenT} (h : Opens l) : ∀ i j, (hi : i < l.length) → (hj : j < l.length) → i < j → l[i].pid < l[j].pid := by
  intro i j hi hj hij
  induction j with
  | zero => omega
  | succ j ih =>
    have h1 := (h (j + 1) hj).2 (by omega)
    simp only [Nat.add_sub_cancel] at h1
    by_cases e : i = j
    · subst e; exact h1
    · have := ih (by omega) (by omega); omega

theorem sl_turn {α : Type} {T : Ty α} {k k' : PH} {a : Option Addr} {c g : Nat} {xs : List α} (hs : Sl T k a c xs) (ht : Turn1 k k' g) (hne : ∀ ad, a = some ad → ad.block ≠ g) (hT : ∀ cs x, T.rep k cs x → T.rep k' cs x) : Sl T k' a c xs :=
  ⟨hs.cap, hs.max, hs.nil, hs.spot, fun i x hx => by
    obtain ⟨b, off, cs, ha, hr, c', et, fr, h1, h2⟩ := hs.el i x hx
    exact ⟨b, off, cs, ha, hT cs x hr, c', et, fr, turn1_get ht (hne _ ha) h1, h2⟩⟩
instance : TyI Tryz.prog 87 1 8 .nilFunc := tyi (by kernel_rfl)
theorem bmono {f : Nat → Value → Nat → Nat → Nat → Prop} {x0 x1 x2 : Value} {g : Nat → Nat → Nat → List Value} : (PV.such fun (k' : PH) (v : Value) => ∃ ba B0 B1 B2, f ba v B0 B1 B2 ∧ Cells k' B0 0 [x0] ∧ Cells k' B1 0 [x1] ∧ Cells k' B2 0 [x2] ∧ Cells k' ba 0 (g B0 B1 B2)).Mono :=
  fun k k' v hle ⟨ba, B0, B1, B2, h, h0, h1, h2, h3⟩ => ⟨ba, B0, B1, B2, h, h0.le hle, h1.le hle, h2.le hle, h3.le hle⟩
set_option maxHeartbeats 4000000 in
theorem txPut_ct {k : PH} {t : Tx} {b : Batch} {a0 : Option Addr} {c0 : Nat} {a1 : Option Addr} {c1 : Nat} {a2 : Option Addr} {c2 : Nat} {ab : Option Addr} {cb : Nat} (ht : TxAt k t a0 c0 a1 c1 a2 c2) (hr : Sl tRec k ab cb b.recs) (hok : b.ok) (ho : t.openV.length ≤ 1000000) (hg : t.gone.length ≤ 1000000) (hd : t.done.length ≤ 1000000) :
    CT Tryz.prog 35 #[.agg (t.cs a0 c0 a1 c1 a2 c2).toArray, .agg (b.cs ab cb).toArray] k (PutRes t b) := by
  refine ct_of_body (l := [_, _]) Tryz.func35 rfl Tryz.ntmps35 (by simp) PutRes.mono fun F hF0 hFm => ?_
  repeat (first | refine cg_seq ?_ | refine cg_region ?_)
  refine rb rfl rfl rfl rfl (a_box rfl rfl) ?_; intro b2 k2 hb2 hN2 hle2 hk2
  refine rb rfl rfl rfl rfl (a_box rfl rfl) ?_; intro b3 k3 hb3 hN3 hle3 hk3
  refine rb rfl rfl rfl rfl (a_alloc rfl) ?_; intro b4 k4 hb4 hN4 hle4 hk4
  have hle := hle2.trans (hle3.trans hle4)
  have ct := (cells_at (vs := t.cs a0 c0 a1 c1 a2 c2) hk2 rfl).le (hle3.trans hle4)
  have cbt := (cells_at (vs := b.cs ab cb) hk3 rfl).le hle4
  have ht0 := ht
  have ht3 := ht.le (hle2.trans hle3)
  have hkb4 : k b4 = none := (hle2.trans hle3).none hb4
  have hb42 : b4 ≠ b2 := fun e => by rw [e, hle3 _ _ hk2] at hb4; cases hb4
  have hb32 : b3 ≠ b2 := fun e => by rw [e, hk2] at hb3; cases hb3
  have hb43 : b4 ≠ b3 := fun e => by rw [e, hk3] at hb4; cases hb4
  have ht := ht.le hle
  have hr := hr.le hle
  repeat (first | refine cg_seq ?_ | refine cg_region ?_ | refine rg_nil ?_ | refine eg_then ?_ | refine qsp ?_ | refine qsg ?_)
  refine rs rfl rfl (loc_call_is rfl rfl rfl rfl (txCheck_ct ht hg hd)) ?_
  have bad : ∀ (e : Int) (k' : PH), e ≠ 0 → putErr t b = e → PutRes t b k' (.tuple #[.agg (noTx.cs none 0 none 0 none 0).toArray, .int .i64 e]) := fun e k' he h => ⟨none, 0, none, 0, none, 0, by rw [h, putR, h, if_neg he], by rw [putR, h, if_neg he]; exact noTxAt _⟩
  cases q1 : txP t
  · simp only [errOf]
    repeat (first | refine cg_seq ?_ | refine cg_region ?_ | refine rg_nil ?_ | refine eg_then ?_ | refine qsp ?_ | refine cg_cond_false rfl ?_ | refine cg_skip ?_)
    refine cg_any (by kernel_rfl) rfl ?_
    repeat (first | refine qwp ?_ | refine qwo ?_ | (refine wn rfl ?_; refine eg_then ?_))
    repeat (first | refine cg_seq ?_ | refine cg_region ?_ | refine rg_nil ?_ | refine eg_then ?_ | refine qsp ?_ | refine cg_cond_true rfl ?_ | refine cg_cond_false rfl ?_ | refine cg_skip ?_)
    refine rs rfl rfl (loc_det rfl (d_lit (cells := noTx.cs none 0 none 0 none 0) rfl rfl rfl)) ?_
    repeat (first | refine qsp ?_)
    refine rw1 (vs := noTx.cs none 0 none 0 none 0) rfl rfl rfl rfl rfl rfl rfl hk4 rfl (.inl hN4) ?_ ?_
    · simp [Tx.cs, Value.oneCell']
    intro k9 ht9 hk9
    have c9 := cells_at (vs := noTx.cs none 0 none 0 none 0) hk9 rfl
    repeat (first | refine rg_nil ?_ | refine eg_then ?_ | refine qsp ?_ | refine cg_ret ?_ | refine eg_then_ret ?_)
    exact eg_returnC2 rfl rfl rfl rfl c9 rfl (bad 1 _ (by decide) (by simp [putErr, q1]))
  simp only [errOf, if_true]
  repeat (first | refine cg_seq ?_ | refine cg_region ?_ | refine rg_nil ?_ | refine eg_then ?_ | refine qsp ?_ | refine qsg ?_ | refine cg_cond_true rfl ?_)
  refine rs rfl rfl (loc_call_is rfl rfl rfl rfl (batchChk_ct hr hok)) ?_
  repeat (first | refine cg_seq ?_ | refine rg_nil ?_ | refine eg_then ?_ | refine qsp ?_)
  cases q2 : (chkB b == 0)
  · have q2' : chkB b ≠ 0 := by simpa using q2
    skip
    refine cg_any (by kernel_rfl) rfl ?_
    repeat (first | refine qwp ?_)
    rw [q2]
    repeat (first | refine qwp ?_ | refine qwo ?_ | (refine wn rfl ?_; refine eg_then ?_))
    repeat (first | refine cg_seq ?_ | refine cg_region ?_ | refine rg_nil ?_ | refine eg_then ?_ | refine qsp ?_ | refine cg_cond_false rfl ?_ | refine cg_skip ?_)
    rw [show (chkB b != 0) = true by simpa using q2']
    repeat (first | refine cg_seq ?_ | refine cg_region ?_ | refine cg_cond_true rfl ?_)
    refine rs rfl rfl (loc_det rfl (d_lit (cells := noTx.cs none 0 none 0 none 0) rfl rfl rfl)) ?_
    repeat (first | refine qsp ?_)
    refine rw1 (vs := noTx.cs none 0 none 0 none 0) rfl rfl rfl rfl rfl rfl rfl hk4 rfl (.inl hN4) ?_ ?_
    · simp [Tx.cs, Value.oneCell']
    intro k9 ht9 hk9
    have c9 := cells_at (vs := noTx.cs none 0 none 0 none 0) hk9 rfl
    repeat (first | refine rg_nil ?_ | refine eg_then ?_ | refine qsp ?_ | refine cg_ret ?_ | refine eg_then_ret ?_)
    exact eg_returnC2 rfl rfl rfl rfl c9 rfl (bad _ _ q2' (by simp [putErr, q1, q2']))
  have q2' : chkB b = 0 := by simpa using q2
  rw [q2']
  obtain ⟨z0, z1, z2⟩ := Tx.parts ct
  obtain ⟨p0, p1, p2, p3, p4, p5, p6, p7, p8, p9⟩ := Batch.parts cbt
  refine cg_anyn (by kernel_rfl) rfl ?_
  repeat (first | refine qwp ?_ | refine qwl ?_ | refine qwf ?_)
  refine wv rfl (loc_call rfl rfl rfl rfl (fun k k' v hle ⟨B, h1, h2⟩ => ⟨B, h1, h2.le hle⟩) (firsts_ct a0 t.openV.length c0)) ?_
  repeat (first | refine qwl ?_ | refine qwf ?_)
  refine wv rfl (loc_call rfl rfl rfl rfl (fun k k' v hle ⟨B, h1, h2⟩ => ⟨B, h1, h2.le hle⟩) (lasts_ct a1 t.gone.length c1)) ?_
  repeat (first | refine qwl ?_ | refine qwf ?_)
  refine wv rfl (loc_call rfl rfl rfl rfl (fun k k' v hle ⟨B, h1, h2⟩ => ⟨B, h1, h2.le hle⟩) (lasts_ct a2 t.done.length c2)) ?_
  refine wv (φ := fun k' v => ∃ ba B0 B1 B2, v = .slice (some ⟨ba, 0, none⟩) 3 3 ∧ Cells k' B0 0 [.slice a0 t.openV.length c0] ∧ Cells k' B1 0 [.slice a1 t.gone.length c1] ∧ Cells k' B2 0 [.slice a2 t.done.length c2] ∧ Cells k' ba 0 [.func (.func 79) #[] #[.pointer (some ⟨B0, 0, none⟩)], .func (.func 90) #[] #[.pointer (some ⟨B1, 0, none⟩)], .func (.func 90) #[] #[.pointer (some ⟨B2, 0, none⟩)]]) rfl (loc_elim 24 rfl (by kernel_rfl) bmono ?_) ?_
  · rintro v1 k5 hle5 ⟨B0, rfl, h0⟩
    refine loc_elim 27 rfl (by kernel_rfl) bmono ?_
    rintro v2 k6 hle6 ⟨B1, rfl, h1⟩
    refine loc_elim 30 rfl (by kernel_rfl) bmono ?_
    rintro v3 k7 hle7 ⟨B2, rfl, h2⟩
    refine loc_weak (loc_alloc rfl (a_slice (cells := [.func (.func 79) #[] #[.pointer (some ⟨B0, 0, none⟩)], .func (.func 90) #[] #[.pointer (some ⟨B1, 0, none⟩)], .func (.func 90) #[] #[.pointer (some ⟨B2, 0, none⟩)]]) rfl rfl rfl rfl (by kernel_rfl) rfl)) bmono ?_
    rintro k8 v hle8 ⟨ba, rfl, hka, _⟩
    exact ⟨ba, B0, B1, B2, rfl, h0.le (hle6.trans (hle7.trans hle8)), h1.le (hle7.trans hle8), h2.le hle8, cells_at hka rfl⟩
  refine ws (v := .bool (behindB t b.base)) rfl (loc_elim 31 rfl (by kernel_rfl) trivial ?_) ?_
  · rintro v k5 hle5 ⟨ba, B0, B1, B2, rfl, h0, h1, h2, hall⟩
    exact loc_call_is rfl rfl rfl rfl (behind_ct b.base (ht.le hle5) ho hg hd h0 h1 h2 hall)
  repeat (first | refine qwp ?_)
  refine wnn ?_
  intro k5 vs hle5 hvs
  clear hvs
  simp only [nameE, nameP]
  refine eg_then ?_
  have hk4 := hle5 _ _ hk4
  have hk2 := hle5 _ _ (hle4 _ _ (hle3 _ _ hk2))
  have ct := ct.le hle5
  have cbt := cbt.le hle5
  have ht := ht.le hle5
  obtain ⟨z0, z1, z2⟩ := Tx.parts ct
  obtain ⟨p0, p1, p2, p3, p4, p5, p6, p7, p8, p9⟩ := Batch.parts cbt
  cases q3 : behindB t b.base
  · repeat (first | refine cg_seq ?_ | refine cg_region ?_ | refine rg_nil ?_ | refine eg_then ?_ | refine qsp ?_ | refine cg_cond_true rfl ?_)
    refine rs rfl rfl (loc_det rfl (d_lit (cells := noTx.cs none 0 none 0 none 0) rfl rfl rfl)) ?_
    repeat (first | refine qsp ?_)
    refine rw1 (vs := noTx.cs none 0 none 0 none 0) rfl rfl rfl rfl rfl rfl rfl hk4 rfl (.inl hN4) ?_ ?_
    · simp [Tx.cs, Value.oneCell']
    intro k9 ht9 hk9
    have c9 := cells_at (vs := noTx.cs none 0 none 0 none 0) hk9 rfl
    repeat (first | refine rg_nil ?_ | refine eg_then ?_ | refine qsp ?_ | refine cg_ret ?_ | refine eg_then_ret ?_)
    exact eg_returnC2 rfl rfl rfl rfl c9 rfl (bad 71 _ (by decide) (by simp [putErr, q1, q2', q3]))
  have good : putErr t b = 0 := by simp [putErr, q1, q2', q3]
  have goodR : ∀ (k' : PH) (a0 : Option Addr) (c0 : Nat) (a1 : Option Addr) (c1 : Nat) (a2 : Option Addr) (c2 : Nat) (u : Tx), putT t b = u → TxAt k' u a0 c0 a1 c1 a2 c2 → PutRes t b k' (.tuple #[.agg (u.cs a0 c0 a1 c1 a2 c2).toArray, .int .i64 0]) := fun k' a0 c0 a1 c1 a2 c2 u hu hat => by
    have e : putR t b = u := by rw [putR, if_pos good, hu]
    exact ⟨a0, c0, a1, c1, a2, c2, by rw [e, good], by rw [e]; exact hat⟩
  have hops : Opens t.openV := by
    simp only [txP, Bool.and_eq_true, decide_eq_true_eq] at q1
    exact q1.1
  repeat (first | refine cg_seq ?_ | refine cg_region ?_ | refine rg_nil ?_ | refine eg_then ?_ | refine qsp ?_ | refine qsl ?_ | refine qsf ?_ | refine cg_cond_false rfl ?_ | refine cg_skip ?_)
  refine rs rfl rfl (loc_call_is rfl rfl rfl rfl (bsO_ct b.pid ht.o ho (opens_rise hops))) ?_
  repeat (first | refine cg_seq ?_ | refine cg_region ?_ | refine rg_nil ?_ | refine eg_then ?_ | refine qsp ?_ | refine qsl ?_ | refine qsf ?_)
  cases q4 : (b.ctl == 0)
  · have q4' : ¬ b.ctl = 0 := by simpa using q4
    repeat (first | refine cg_seq ?_ | refine cg_region ?_ | refine rg_nil ?_ | refine eg_then ?_ | refine qsp ?_ | refine cg_cond_false rfl ?_ | refine cg_skip ?_)
    cases q6 : thereO t.openV b.pid
    · repeat (first | refine cg_seq ?_ | refine cg_region ?_ | refine cg_cond_true rfl ?_)
      refine qsg (hc := ct) ?_
      skip
      refine rw1 (vs := t.cs a0 c0 a1 c1 a2 c2) rfl rfl rfl rfl rfl rfl rfl hk4 rfl (.inl hN4) ?_ ?_
      · simp [Tx.cs, Value.oneCell']
      intro k9 ht9 hk9
      have c9 := cells_at (vs := t.cs a0 c0 a1 c1 a2 c2) hk9 rfl
      have hle9 : Le k3 k9 := ht9 k3 (hle4.trans hle5) hb4
      repeat (first | refine rg_nil ?_ | refine eg_then ?_ | refine qsp ?_ | refine cg_ret ?_ | refine eg_then_ret ?_)
      exact eg_returnC2 rfl rfl rfl rfl c9 rfl (goodR _ _ _ _ _ _ _ t (by simp [putT, q4', q6]) (ht3.le hle9))
    have hlt := thereO_lt q6
    obtain ⟨bx, ox, cx, ea0, ⟨ecx, hox⟩, hcx⟩ := ht.o.el _ t.openV[placeO t.openV b.pid] (List.getElem?_eq_getElem hlt)
    subst ecx
    subst ea0
    obtain ⟨o0, o1⟩ := OpenT.parts hcx
    obtain ⟨gg, hgg⟩ : ∃ gg : Gone, gg = ⟨b.pid, b.seq, t.openV[placeO t.openV b.pid].first, b.base⟩ := ⟨_, rfl⟩
    have hgo : goneOf t b = gg := by simp [goneOf, hgg, List.getElem?_eq_getElem hlt]
    have hgok : gg.ok := by rw [hgg]; exact ⟨hok.2.2.2.2.1, hok.2.2.2.2.2.2.1, hox.2, hok.1⟩
    repeat (first | refine cg_seq ?_ | refine eg_then ?_ | refine cg_cond_false rfl ?_ | refine cg_skip ?_)
    refine cg_fresh 14 [9] (by kernel_rfl) (by kernel_rfl) rfl rfl rfl ?_
    dsimp only [List.take]
    repeat (first | refine qfp ?_ | refine qfi ?_ | refine qfl ?_ | refine qff ?_)
    refine fs_s rfl (loc_det rfl (d_lit (cells := gg.vs) rfl rfl (by rw [hgg]; rfl))) rfl ?_
    refine fs_newN rfl rfl (a_alloc rfl) (fun _ => rfl) ?_
    refine fs_nil ?_
    intro k6 vs6 hle6 hvs6 _ _
    obtain ⟨b9, e9, hk9, hn9, hN9⟩ := hvs6 9 _ rfl
    clear hvs6
    dsimp only [List.drop]
    simp only [nameE, nameP]
    rw [e9]
    refine rw1 (vs := gg.vs) rfl rfl rfl rfl rfl rfl rfl hk9 rfl (.inl hN9) ?_ ?_
    · simp [Gone.vs, Value.oneCell']
    intro k7 ht7 hk7
    have hle7 : Le k5 k7 := ht7 k5 hle6 hn9
    have ho7 := ht.o.le hle7
    obtain ⟨z0, z1, z2⟩ := Tx.parts (ct.le hle7)
    repeat (first | refine cg_seq ?_ | refine cg_region ?_ | refine rg_nil ?_ | refine eg_then ?_ | refine qsl ?_ | refine qsf ?_)
    refine rvn rfl rfl rfl rfl rfl rfl rfl (cloneOpen_ct ho7 (by omega)) ?_
    rintro N8 k8 v8 hN8 hnew8 hle8 ⟨css, hp, hrow⟩
    have hap := hrow.apart hnew8
    repeat (first | refine qsp ?_ | refine qsa ?_)
    refine rcm rfl rfl rfl rfl rfl rfl rfl (deleteOpen_ct (i := placeO t.openV b.pid) (j := placeO t.openV b.pid + 1) hrow hp hle8 hap (Nat.le_succ _) hlt) (fun b hb => .inl (Nat.le_trans hN8 (hrow.block hb).1)) ?_
    rintro u k9 _ ⟨hrow', hp', hle9, hap'⟩
    obtain ⟨a6, c6, e6, h6⟩ := Row.sls (T := tOpenT) hrow' (hp'.le hle9)
    subst e6
    have h6' : ∀ ad, a6 = some ad → k7 ad.block = none := fun ad e => hap' ad.block (by rw [e]; rfl)
    have hle59 : Le k5 k9 := hle7.trans hle9
    have hk29 := hle59 _ _ hk2
    repeat (first | refine qsf ?_)
    refine rw0 rfl rfl rfl rfl rfl rfl rfl rfl hk29 ?_ (.inl hN2) ?_
    · show 0 < 3
      omega
    intro k10 ht10 hk10
    have hb92 : b9 ≠ b2 := fun e => by rw [e, hk2] at hn9; cases hn9
    obtain ⟨t1, ht1⟩ : ∃ t1 : Tx, t1 = ⟨lessT t b, t.gone, t.done⟩ := ⟨_, rfl⟩
    have ct10 := cells_at (vs := t1.cs a6 c6 a1 c1 a2 c2) hk10 (by rw [ht1]; rfl)
    have c10 := (cells_at (vs := gg.vs) (turn1_get ht10 hb92 (hle9 _ _ hk7)) rfl)
    obtain ⟨y0, y1, y2⟩ := Tx.parts ct10
    have hle10 : ∀ kk, Le kk k9 → kk b2 = none → Le kk k10 := fun kk h1 h2 => ht10 kk h1 h2
    have h0_10 : Le k k10 := hle10 k (hle.trans (hle5.trans hle59)) hb2
    have cb10 := cells_at (vs := b.cs ab cb) (turn1_get ht10 hb32 (hle59 _ _ (hle5 _ _ (hle4 _ _ hk3)))) rfl
    obtain ⟨p0, p1, p2, p3, p4, p5, p6, p7, p8, p9⟩ := Batch.parts cb10
    have h6_10 := sl_turn h6 ht10 (fun ad e h => by have := h6' ad e; rw [h, hle7 _ _ hk2] at this; cases this) (fun _ _ h => h)
    have hn4_7 : b4 ≠ b9 := fun e => by rw [← e, hk4] at hn9; cases hn9
    have hk4_10 := turn1_get ht10 hb42 (hle59 _ _ hk4)
    repeat (first | refine cg_seq ?_ | refine cg_region ?_ | refine rg_nil ?_ | refine eg_then ?_ | refine qsp ?_ | refine qsl ?_ | refine qsf ?_)
    cases q7 : (b.ctl == 2)
    · have q7' : ¬ b.ctl = 2 := by simpa using q7
      obtain ⟨sd, hsd0⟩ : ∃ sd, sd = t.done := ⟨_, rfl⟩
      have hsd : Sl tGone k10 a2 c2 sd := by rw [hsd0]; exact ht0.d.le h0_10
      have hsz : sd.length ≤ 1000000 := by rw [hsd0]; exact hd
      rw [ht1] at y0 y1 y2
      simp only at y0 y1 y2
      rw [← hsd0] at y2
      obtain ⟨cs0, hp0, hH0⟩ := hsd.holds
      repeat (first | refine cg_seq ?_ | refine eg_then ?_ | refine cg_cond_false rfl ?_ | refine cg_skip ?_)
      refine cg_fresh 9 [] (by kernel_rfl) (by kernel_rfl) rfl rfl rfl ?_
      dsimp only [List.take]
      repeat (first | refine qfp ?_ | refine qfl ?_)
      refine fs_s rfl (loc_call_is rfl rfl rfl rfl (clipGone_ct hsd)) rfl ?_
      repeat (first | refine qfg ?_)
      refine fs_v rfl (loc_alloc rfl (a_slice (cells := gg.vs) rfl rfl rfl rfl (by kernel_rfl) rfl)) rfl ?_
      refine fs_v (φ := fun k' v => Row 0 k' 74 4 v (sd.length + 1) (cs0.flatten ++ gg.vs) ∧ ∀ g, v.ownBlock = some g → k10 g = none) rfl (loc_elim 104 rfl (by kernel_rfl) (fun k k' v hle h => ⟨h.1.le hle, h.2⟩) ?_) rfl ?_
      · rintro v11 k11 hle11 ⟨bg, rfl, hkg, _⟩
        refine loc_weak (loc_appNew rfl rfl rfl rfl (hH0.le hle11) (by rw [flat_len _ hp0.len, hp0.1]; rfl) (fun e => by have := hsd.nil e; have := hsd.cap; omega) (cells_at (vs := gg.vs) hkg rfl) rfl (by omega) rfl rfl (Nat.le_refl _) (by omega) (by unfold maxLen; omega) (by omega)) (fun k k' v hle h => ⟨h.1.le hle, h.2⟩) ?_
        rintro k12 v hle12 ⟨h1, h2⟩
        exact ⟨h1, fun g hg => hle11.none (h2 g hg)⟩
      repeat (first | refine qfp ?_)
      refine fs_nil ?_
      intro k11 vs11 hle11 hvs11 _ _
      obtain ⟨hrow11, hfr11⟩ := hvs11 105 _ rfl
      clear hvs11
      have hsl11 : (sd ++ [gg]).length = sd.length + 1 := by simp
      rw [show cs0.flatten ++ gg.vs = (cs0 ++ [gg.vs]).flatten by simp, ← hsl11] at hrow11
      obtain ⟨a7, c7', e7, h7⟩ := Row.sls (T := tGone) hrow11 ((hp0.append (Pieces.one (T := tGone) ⟨rfl, hgok⟩)).le hle11)
      have h7' : ∀ ad, a7 = some ad → k10 ad.block = none := fun ad e => hfr11 ad.block (by rw [e7, e]; rfl)
      dsimp only [List.drop]
      simp only [nameE, nameP]
      rw [e7]
      refine rw0 rfl rfl rfl rfl rfl rfl rfl rfl (hle11 _ _ hk10) ?_ (.inl hN2) ?_
      · first | (show 1 < 3; omega) | (show 2 < 3; omega)
      intro k12 ht12 hk12
      have hk4_12 := turn1_get ht12 hb42 (hle11 _ _ hk4_10)
      have h7_12 := sl_turn h7 ht12 (fun ad e h => by have := h7' ad e; rw [h, hk10] at this; cases this) (fun _ _ h => h)
      have h6_12 := sl_turn (h6_10.le hle11) ht12 (fun ad e h => by have := h6' ad e; rw [h, hle7 _ _ hk2] at this; cases this) (fun _ _ h => h)
      have h0_12 : Le k k12 := ht12 k (h0_10.trans hle11) hb2
      have ct12 := cells_at (vs := (⟨lessT t b, t.gone, sd ++ [gg]⟩ : Tx).cs a6 c6 a1 c1 a7 c7') hk12 rfl
      repeat (first | refine cg_seq ?_ | refine cg_region ?_ | refine rg_nil ?_ | refine eg_then ?_ | refine qsg ?_)
      refine rw1 (vs := (⟨lessT t b, t.gone, sd ++ [gg]⟩ : Tx).cs a6 c6 a1 c1 a7 c7') rfl rfl rfl rfl rfl rfl rfl hk4_12 rfl (.inl hN4) ?_ ?_
      · simp [Tx.cs, Value.oneCell']
      intro k13 ht13 hk13
      have c13 := cells_at (vs := (⟨lessT t b, t.gone, sd ++ [gg]⟩ : Tx).cs a6 c6 a1 c1 a7 c7') hk13 rfl
      have h0_13 : Le k k13 := ht13 k h0_12 hkb4
      have n4_7 : k7 b4 = some _ := hle7 _ _ hk4
      have n4_10 : k10 b4 = some _ := hk4_10
      repeat (first | refine rg_nil ?_ | refine eg_then ?_ | refine qsp ?_ | refine cg_ret ?_)
      refine eg_returnC2 rfl rfl rfl rfl c13 rfl (goodR _ _ _ _ _ _ _ ⟨lessT t b, t.gone, sd ++ [gg]⟩ (by simp [putT, q4', q6, q7', hgo, hsd0]) ⟨?_, ht0.g.le h0_13, ?_⟩)
      · exact sl_turn h6_12 ht13 (fun ad e h => by have := h6' ad e; rw [h, n4_7] at this; cases this) (fun _ _ h => h)
      · exact sl_turn h7_12 ht13 (fun ad e h => by have := h7' ad e; rw [h, n4_10] at this; cases this) (fun _ _ h => h)
    have q7' : b.ctl = 2 := by simpa using q7
    obtain ⟨sd, hsd0⟩ : ∃ sd, sd = t.gone := ⟨_, rfl⟩
    have hsd : Sl tGone k10 a1 c1 sd := by rw [hsd0]; exact ht0.g.le h0_10
    have hsz : sd.length ≤ 1000000 := by rw [hsd0]; exact hg
    rw [ht1] at y0 y1 y2
    simp only at y0 y1 y2
    rw [← hsd0] at y1
    obtain ⟨cs0, hp0, hH0⟩ := hsd.holds
    repeat (first | refine cg_seq ?_ | refine cg_region ?_ | refine rg_nil ?_ | refine eg_then ?_ | refine qsp ?_ | refine qsf ?_ | refine cg_cond_true rfl ?_)
    refine cg_fresh 9 [] (by kernel_rfl) (by kernel_rfl) rfl rfl rfl ?_
    dsimp only [List.take]
    repeat (first | refine qfp ?_ | refine qfl ?_)
    refine fs_s rfl (loc_call_is rfl rfl rfl rfl (clipGone_ct hsd)) rfl ?_
    repeat (first | refine qfg ?_)
    refine fs_v rfl (loc_alloc rfl (a_slice (cells := gg.vs) rfl rfl rfl rfl (by kernel_rfl) rfl)) rfl ?_
    refine fs_v (φ := fun k' v => Row 0 k' 74 4 v (sd.length + 1) (cs0.flatten ++ gg.vs) ∧ ∀ g, v.ownBlock = some g → k10 g = none) rfl (loc_elim 104 rfl (by kernel_rfl) (fun k k' v hle h => ⟨h.1.le hle, h.2⟩) ?_) rfl ?_
    · rintro v11 k11 hle11 ⟨bg, rfl, hkg, _⟩
      refine loc_weak (loc_appNew rfl rfl rfl rfl (hH0.le hle11) (by rw [flat_len _ hp0.len, hp0.1]; rfl) (fun e => by have := hsd.nil e; have := hsd.cap; omega) (cells_at (vs := gg.vs) hkg rfl) rfl (by omega) rfl rfl (Nat.le_refl _) (by omega) (by unfold maxLen; omega) (by omega)) (fun k k' v hle h => ⟨h.1.le hle, h.2⟩) ?_
      rintro k12 v hle12 ⟨h1, h2⟩
      exact ⟨h1, fun g hg => hle11.none (h2 g hg)⟩
    repeat (first | refine qfp ?_)
    refine fs_nil ?_
    intro k11 vs11 hle11 hvs11 _ _
    obtain ⟨hrow11, hfr11⟩ := hvs11 105 _ rfl
    clear hvs11
    have hsl11 : (sd ++ [gg]).length = sd.length + 1 := by simp
    rw [show cs0.flatten ++ gg.vs = (cs0 ++ [gg.vs]).flatten by simp, ← hsl11] at hrow11
    obtain ⟨a7, c7', e7, h7⟩ := Row.sls (T := tGone) hrow11 ((hp0.append (Pieces.one (T := tGone) ⟨rfl, hgok⟩)).le hle11)
    have h7' : ∀ ad, a7 = some ad → k10 ad.block = none := fun ad e => hfr11 ad.block (by rw [e7, e]; rfl)
    dsimp only [List.drop]
    simp only [nameE, nameP]
    rw [e7]
    refine rw0 rfl rfl rfl rfl rfl rfl rfl rfl (hle11 _ _ hk10) ?_ (.inl hN2) ?_
    · first | (show 1 < 3; omega) | (show 2 < 3; omega)
    intro k12 ht12 hk12
    have hk4_12 := turn1_get ht12 hb42 (hle11 _ _ hk4_10)
    have h7_12 := sl_turn h7 ht12 (fun ad e h => by have := h7' ad e; rw [h, hk10] at this; cases this) (fun _ _ h => h)
    have h6_12 := sl_turn (h6_10.le hle11) ht12 (fun ad e h => by have := h6' ad e; rw [h, hle7 _ _ hk2] at this; cases this) (fun _ _ h => h)
    have h0_12 : Le k k12 := ht12 k (h0_10.trans hle11) hb2
    have ct12 := cells_at (vs := (⟨lessT t b, sd ++ [gg], t.done⟩ : Tx).cs a6 c6 a7 c7' a2 c2) hk12 rfl
    repeat (first | refine cg_seq ?_ | refine cg_region ?_ | refine rg_nil ?_ | refine eg_then ?_ | refine qsg ?_)
    refine rw1 (vs := (⟨lessT t b, sd ++ [gg], t.done⟩ : Tx).cs a6 c6 a7 c7' a2 c2) rfl rfl rfl rfl rfl rfl rfl hk4_12 rfl (.inl hN4) ?_ ?_
    · simp [Tx.cs, Value.oneCell']
    intro k13 ht13 hk13
    have c13 := cells_at (vs := (⟨lessT t b, sd ++ [gg], t.done⟩ : Tx).cs a6 c6 a7 c7' a2 c2) hk13 rfl
    have h0_13 : Le k k13 := ht13 k h0_12 hkb4
    have n4_7 : k7 b4 = some _ := hle7 _ _ hk4
    have n4_10 : k10 b4 = some _ := hk4_10
    repeat (first | refine rg_nil ?_ | refine eg_then ?_ | refine qsp ?_ | refine cg_ret ?_)
    refine eg_returnC2 rfl rfl rfl rfl c13 rfl (goodR _ _ _ _ _ _ _ ⟨lessT t b, sd ++ [gg], t.done⟩ (by simp [putT, q4', q6, q7', hgo, hsd0]) ⟨?_, ?_, ht0.d.le h0_13⟩)
    · exact sl_turn h6_12 ht13 (fun ad e h => by have := h6' ad e; rw [h, n4_7] at this; cases this) (fun _ _ h => h)
    · exact sl_turn h7_12 ht13 (fun ad e h => by have := h7' ad e; rw [h, n4_10] at this; cases this) (fun _ _ h => h)
  have q4' : b.ctl = 0 := by simpa using q4
  repeat (first | refine cg_seq ?_ | refine cg_region ?_ | refine qsp ?_ | refine qsl ?_ | refine qsf ?_ | refine cg_cond_true rfl ?_)
  cases q5 : b.txn
  · repeat (first | refine cg_seq ?_ | refine cg_region ?_ | refine rg_nil ?_ | refine eg_then ?_ | refine qsp ?_ | refine qso ?_ | refine cg_cond_false rfl ?_ | refine cg_skip ?_)
    refine qsg (hc := ct) ?_
    skip
    refine rw1 (vs := t.cs a0 c0 a1 c1 a2 c2) rfl rfl rfl rfl rfl rfl rfl hk4 rfl (.inl hN4) ?_ ?_
    · simp [Tx.cs, Value.oneCell']
    intro k9 ht9 hk9
    have c9 := cells_at (vs := t.cs a0 c0 a1 c1 a2 c2) hk9 rfl
    have hle9 : Le k3 k9 := ht9 k3 (hle4.trans hle5) hb4
    repeat (first | refine rg_nil ?_ | refine eg_then ?_ | refine qsp ?_ | refine cg_ret ?_ | refine eg_then_ret ?_)
    exact eg_returnC2 rfl rfl rfl rfl c9 rfl (goodR _ _ _ _ _ _ _ t (by simp [putT, q4', q5]) (ht3.le hle9))
  repeat (first | refine rg_nil ?_ | refine eg_then ?_ | refine qsp ?_)
  cases q6 : thereO t.openV b.pid
  rotate_left
  · repeat (first | refine cg_seq ?_ | refine cg_region ?_ | refine eg_then ?_ | refine cg_cond_false rfl ?_ | refine cg_skip ?_)
    refine qsg (hc := ct) ?_
    skip
    refine rw1 (vs := t.cs a0 c0 a1 c1 a2 c2) rfl rfl rfl rfl rfl rfl rfl hk4 rfl (.inl hN4) ?_ ?_
    · simp [Tx.cs, Value.oneCell']
    intro k9 ht9 hk9
    have c9 := cells_at (vs := t.cs a0 c0 a1 c1 a2 c2) hk9 rfl
    have hle9 : Le k3 k9 := ht9 k3 (hle4.trans hle5) hb4
    repeat (first | refine rg_nil ?_ | refine eg_then ?_ | refine qsp ?_ | refine cg_ret ?_ | refine eg_then_ret ?_)
    exact eg_returnC2 rfl rfl rfl rfl c9 rfl (goodR _ _ _ _ _ _ _ t (by simp [putT, q4', q5, q6]) (ht3.le hle9))
  repeat (first | refine cg_cond_true rfl ?_)
  refine cg_pair 12 2 10 58 (fun k1 v => ∃ css, Pieces tOpenT k5 css t.openV ∧ Row 0 k1 72 2 v t.openV.length css.flatten) (by kernel_rfl) (by kernel_rfl) rfl (by kernel_rfl) rfl rfl ?_
  dsimp only [List.take]
  repeat (first | refine qcl ?_ | refine qcf ?_)
  refine wc_e 0 rfl (effs_mk rfl rfl rfl rfl rfl rfl (cloneOpen_ct ht.o (by omega)) ?_) ?_
  · rintro M k' v ⟨css, hp, hrow⟩
    exact ⟨fun g hg => hrow.block hg, fun k1 _ hg => ⟨css, hp, (hrow.at hg).N_le (Nat.zero_le _)⟩⟩
  repeat (first | refine qcp ?_ | refine qcl ?_ | refine qcf ?_)
  refine wc_s rfl (loc_det rfl (d_lit (cells := (⟨b.pid, b.base⟩ : OpenT).vs) rfl rfl rfl)) rfl ?_
  refine wc_v rfl (loc_alloc rfl (a_slice (cells := (⟨b.pid, b.base⟩ : OpenT).vs) rfl rfl rfl rfl (by kernel_rfl) rfl)) rfl ?_
  refine wc_e 1 rfl (effs_turn (Φ := fun k' u => ∃ a' c', u = .slice a' (opensT t b).openV.length c' ∧ Sl tOpenT k' a' c' (opensT t b).openV ∧ ∀ ad, a' = some ad → k5 ad.block = none) rfl rfl rfl rfl rfl (Le.refl _) (fun k k' v hle ⟨a, c, h1, h2, h3⟩ => ⟨a, c, h1, h2.le hle, h3⟩) ?_) ?_
  · rintro k0 k1 v0 z hk0 hk1 hap ⟨css, hp, hrow⟩ ⟨vb, rfl, hvb, _⟩
    refine CTM.imp (insertOpen_ct hrow (hp.le hk0) hk1 hap (placeO_le t.openV b.pid) (hk1 _ _ hvb) (x := ⟨b.pid, b.base⟩) ⟨rfl, hok.2.2.2.2.1, hok.1⟩ (fun e => by rw [hap vb e] at hvb; cases hvb) ho) ?_
    rintro k' u ⟨a', c', rfl, h1, h2, h3⟩
    refine ⟨⟨a', c', rfl, h1, fun ad e => ?_⟩, h2⟩
    cases e5 : k5 ad.block with
    | none => rfl
    | some ob =>
      rcases h3 ad e with h | h
      · have := hap ad.block h
        rw [hk0 _ _ e5] at this; cases this
      · rw [hk1 _ _ (hk0 _ _ e5)] at h; cases h
  repeat (first | refine qcf ?_)
  refine wc_nil ?_
  intro k6 vs hle6 hvs
  obtain ⟨a6, c6, e6, h6, hfr6⟩ := hvs 66 _ rfl
  clear hvs
  dsimp only [List.drop]
  simp only [nameE, nameP, set]
  rw [e6]
  refine rw0 rfl rfl rfl rfl rfl rfl rfl rfl (hle6 _ _ hk2) ?_ (.inl hN2) ?_
  · show 0 < 3
    omega
  intro k7 ht7 hk7
  have ct7 := cells_at (vs := (opensT t b).cs a6 c6 a1 c1 a2 c2) hk7 rfl
  repeat (first | refine cg_seq ?_ | refine cg_region ?_ | refine rg_nil ?_ | refine eg_then ?_ | refine qsg ?_)
  have hk47 := turn1_get ht7 hb42 (hle6 _ _ hk4)
  refine rw1 (vs := (opensT t b).cs a6 c6 a1 c1 a2 c2) rfl rfl rfl rfl rfl rfl rfl hk47 rfl (.inl hN4) ?_ ?_
  · simp [Tx.cs, Value.oneCell']
  intro k8 ht8 hk8
  have c8 := cells_at (vs := (opensT t b).cs a6 c6 a1 c1 a2 c2) hk8 rfl
  have hle8 : Le k k8 := ht8 k (ht7 k (hle5.trans hle6 |> hle.trans) hb2) hkb4
  repeat (first | refine rg_nil ?_ | refine eg_then ?_ | refine qsp ?_ | refine cg_ret ?_ | refine eg_then_ret ?_)
  refine eg_returnC2 rfl rfl rfl rfl c8 rfl (goodR _ _ _ _ _ _ _ (opensT t b) (by simp [putT, q4', q5, q6]) ⟨?_, ht0.g.le hle8, ht0.d.le hle8⟩)
  exact sl_turn (sl_turn h6 ht7 (fun ad e h => by have := hfr6 ad e; rw [h, hk2] at this; cases this) (fun _ _ h => h)) ht8 (fun ad e h => by have := hfr6 ad e; rw [h, hk4] at this; cases this) (fun _ _ h => h)
end Go.Wm

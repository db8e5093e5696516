/-
  The greatest cut, the program's. Conditions: that what is handed in reads as data.
-/
import Derived.Test.YtjonlpdnhbnmmaaGreatA13
import Derived.Test.YtjonlpdnhbnmmaaGreatEnt
set_option linter.all false
namespace Go.Wm
open Go.RowKit Go.Proofs
attribute [local irreducible] RG CG EG WA Loc Det Alc CT Exit.then Exit.inBlock Code.wp bodyPost

theorem Cells.turn1 {k k' : PH} {b off g : Nat} {vs : List Value} (h : Cells k b off vs) (ht : Turn1 k k' g) (hne : b ≠ g) : Cells k' b off vs := by
  obtain ⟨c, et, fr, g1, g2⟩ := h
  exact ⟨c, et, fr, turn1_get ht hne g1, g2⟩
theorem Sl.turn1 {α : Type} {T : Ty α} {k k' : PH} {a : Option Addr} {c g : Nat} {xs : List α} (hs : Sl T k a c xs) (ht : Turn1 k k' g) (hne : ∀ ad, a = some ad → ad.block ≠ g) (hT : ∀ cs x, T.rep k cs x → T.rep k' cs x) : Sl T k' a c xs :=
  ⟨hs.cap, hs.max, hs.nil, hs.spot, fun i x hx => by
    obtain ⟨b, off, cs, h1, h2, h3⟩ := hs.el i x hx
    exact ⟨b, off, cs, h1, hT _ _ h2, h3.turn1 ht (hne _ h1)⟩⟩
theorem PlsRes.sl1 {N : Nat} {k k' : PH} {r b : Nat} {D : List PD} (H : PlsRes N k r D) (ht : Turn1 k k' b) (hrow : ∀ d ∈ D, ∀ g, d.2.1.ownBlock = some g → g ≠ b) :
    (∀ d ∈ D, ∃ a c, d.2.1 = .slice a d.2.2.length c ∧ Sl tPl k' a c d.2.2) ∧ ∀ d ∈ D, ∀ g, d.2.1.ownBlock = some g → N ≤ g ∧ g ≠ r ∧ ∃ ob, k' g = some ob := by
  refine ⟨fun d hd => ?_, fun d hd g hg => ?_⟩
  · obtain ⟨a, c, h1, h2⟩ := H.sl d hd
    refine ⟨a, c, h1, h2.turn1 ht (fun ad e => hrow d hd _ ?_) fun cs x h => h⟩
    rw [h1, e]; rfl
  · obtain ⟨h1, h2, ob, h3⟩ := H.own d hd g hg
    exact ⟨h1, h2, ob, turn1_get ht (hrow d hd g hg) h3⟩
theorem PlsRes.turn1 {N : Nat} {k k' : PH} {r b : Nat} {D : List PD} (H : PlsRes N k r D) (ht : Turn1 k k' b) (hbr : r ≠ b) (hrow : ∀ d ∈ D, ∀ g, d.2.1.ownBlock = some g → g ≠ b) : PlsRes N k' r D :=
  ⟨H.N_le, H.out.turn1 ht hbr, (H.sl1 ht hrow).1, (H.sl1 ht hrow).2, H.keys⟩
theorem PlsRes.del {N : Nat} {k k' : PH} {r : Nat} {D : List PD} {w : Who} (H : PlsRes N k r D) (ht : Turn1 k k' r) (hm : MapAt keyW k' r (kdel1 w (D.map fun d => (d.1, d.2.1)))) : PlsRes N k' r (kdel1 w D) := by
  have hs := H.sl1 ht fun d hd g hg => (H.own d hd g hg).2.1
  have hsub := (kdel1_sub w D).subset
  refine ⟨H.N_le, ?_, fun d hd => hs.1 d (hsub hd), fun d hd => hs.2 d (hsub hd), kdel1_nodup H.keys⟩
  rw [kdel1_map w (fun p : Value × List Pl => p.1)] at hm
  exact hm
theorem lowPs_snoc (m : List Int) (ps : List Pl) (p : Pl) : lowPs m (ps ++ [p]) = lowPl (lowPs m ps) p := by simp [lowPs]
theorem places_first {l : List View} {T : List (List Pl)} (hf : FirstsOk l) (hT : Places l T) {ps : List Pl} (h : ps ∈ T) : ∀ p ∈ ps, 0 ≤ p.first := fun p hp => by
  rcases hT.of ps h with ⟨pid, no, rfl⟩ | ⟨i, hi, g, hg, rfl⟩
  · obtain ⟨i, hi, g, hg, _, _, rfl⟩ := donePl_mem.1 hp
    exact (hf _ (List.getElem_mem hi)).1 g hg
  · simp at hp
    subst hp
    exact (hf _ (List.getElem_mem hi)).2.1 g hg
/-- Marks, in a row of the call's own. -/
def MRow (N : Nat) (k : PH) (v : Value) (m : List Int) : Prop := Row N k 3 1 v m.length (curR m)
theorem MRow.sl {N : Nat} {k : PH} {av : Option Addr} {n cv : Nat} {m : List Int} (h : MRow N k (.slice av n cv) m) (hm : ∀ x ∈ m, I64 x) : n = m.length ∧ Sl tInt k av cv m := by
  unfold MRow at h
  rw [curR_eq] at h
  obtain ⟨a, c, e, hs⟩ := Row.sl (T := tInt) h fun x hx => ⟨rfl, hm x hx⟩
  cases e
  exact ⟨rfl, hs⟩
theorem lowPs_nonneg : ∀ (ps : List Pl) (m : List Int), (∀ x ∈ m, 0 ≤ x) → (∀ p ∈ ps, 0 ≤ p.first) → ∀ x ∈ lowPs m ps, 0 ≤ x
  | [], m, h, _ => h
  | p :: ps, m, h, hp => by
    refine lowPs_nonneg ps (lowPl m p) (fun x hx => ?_) fun q hq => hp q (by simp [hq])
    unfold lowPl at hx
    rcases List.mem_or_eq_of_mem_set hx with hx | rfl
    · exact h x hx
    · have h0 : 0 ≤ markAt m p := by
        unfold markAt
        by_cases hi : p.view.toNat < m.length
        · rw [List.getD_eq_getElem?_getD, List.getElem?_eq_getElem hi]
          exact h _ (List.getElem_mem hi)
        · rw [List.getD_eq_getElem?_getD, List.getElem?_eq_none (by omega)]
          exact Int.le_refl _
      exact le_minI h0 (hp p (by simp))

theorem Row.turn1 {N : Nat} {k k' : PH} {et sz b : Nat} {v : Value} {m : Nat} {xs : List Value} (h : Row N k et sz v m xs) (ht : Turn1 k k' b) (hne : v.ownBlock ≠ some b) : Row N k' et sz v m xs := h.at fun g hg => by
  obtain ⟨_, ob, e⟩ := h.block hg
  rw [e]
  exact turn1_get ht (by rintro rfl; exact hne hg) e
/-- What is known at the label. -/
def CutSt (N : Nat) (k : PH) (l : List View) (a : Option Addr) (c : Nat) (x : List Int × List PD) (e : Env) (k' : PH) : Prop :=
  MayV l ∧ ∃ (av : Option Addr) (cv r N2 : Nat) (T : List (List Pl)), Le k k' ∧ MRow N k' (.slice av l.length cv) x.1 ∧ (∀ ad, av = some ad → k ad.block = none ∧ ad.block < N2) ∧ PlsRes N2 k' r x.2 ∧ k r = none ∧ N ≤ r ∧
    Places l T ∧ Low l (stableL l) T (x.2.map (·.2.2)) x.1 ∧ (∀ n ∈ x.1, 0 ≤ n ∧ I64 n) ∧ e = [(0, .is (.slice a l.length c)), (4, .is (.slice av l.length cv)), (5, .is (.map (some r)))]

/-- What a cut tells, in blocks of the call's own. -/
def CutN (l : List View) (N : Nat) (k' : PH) (v : Value) : Prop :=
  if MayV l then ∃ m v1, IsCut l (stableL l) m ∧ (∀ n ∈ m, 0 ≤ n) ∧ v = .tuple #[v1, .int .i64 0] ∧ Row N k' 52 4 v1 (marksOf l m).length ((marksOf l m).flatMap Mark.vs) ∧ ∀ x ∈ marksOf l m, x.ok
  else v = .tuple #[.slice none 0 0, .int .i64 1]
theorem CutN.mono {l : List View} : ∀ N k k' v, Le k k' → CutN l N k v → CutN l N k' v := fun N k k' v hle h => by
  unfold CutN at h ⊢
  split
  · rename_i hm
    rw [if_pos hm] at h
    obtain ⟨m, v1, h1, h2, h3, h4, h5⟩ := h
    exact ⟨m, v1, h1, h2, h3, h4.le hle, h5⟩
  · rename_i hm
    rw [if_neg hm] at h
    exact h
theorem CTN.ct {P : Program} {f : FuncId} {args : Array Value} {kr : PH} {φ : Nat → PH → Value → Prop} {ψ : PH → Value → Prop} (h : CTN P f args kr φ) (hm : ∀ N k v, φ N k v → ψ k v) : CT P f args kr ψ := by
  unfold CT
  unfold CTN at h
  exact fun w k hk hs => (h w k hk hs).mono fun _ _ ⟨v, k2, h1, h2, h3, h4, h5⟩ => ⟨v, k2, h1, h2, h3, h4, hm _ _ _ h5⟩

set_option maxHeartbeats 2000000 in
theorem cut_ctn {k : PH} {a : Option Addr} {c : Nat} {l : List View} (hl : Sl tView k a c l) (hb : l.length ≤ 1000000) (hsmall : SmallV l) :
    CTN Tryz.prog 55 #[.slice a l.length c] k (CutN l) := by
  refine ctn_of_body (l := [_]) Tryz.func55 rfl Tryz.ntmps55 (by simp) CutN.mono fun F hF0 hFm => ?_
  have b1 := hl.cap; have b2 := hl.max; unfold maxLen at b2
  have hsl : (stableL l).length = l.length := by simp [stableL]
  have hsI := stableL_I64 hl
  repeat (first | refine cg_seq ?_ | refine cg_region ?_ | refine rg_nil ?_ | refine eg_then ?_ | refine qsp ?_)
  refine cg_scope (CutSt F.w0.heap.size k l a c) (fun x => x.2.length) 0 _ rfl ?_ ?_
  · rintro ⟨m, R⟩ e k3 ⟨hmay, av, cv, r, N2, T, hle3, hm3, hav, hpl3, hkr, hNr, hT, hlow, hmok, rfl⟩
    repeat (first | refine cg_seq ?_ | refine cg_region ?_ | refine qsp ?_)
    obtain ⟨es, cl, g1, g2, g3, g4⟩ := hpl3.out
    refine rb rfl rfl rfl rfl (a_range rfl rfl g1) ?_; intro it k4 hit hNit hle4 hk4
    have hitr : it ≠ r := some_ne g1 hit
    have hitrow : ∀ d ∈ R, ∀ g, d.2.1.ownBlock = some g → g ≠ it := fun d hd g hg => by
      obtain ⟨_, _, ob, h3⟩ := hpl3.own d hd g hg
      rintro rfl
      rw [hit] at h3; cases h3
    have hitm : (Value.slice av l.length cv).ownBlock ≠ some it := fun hg => by
      obtain ⟨_, ob, h3⟩ := hm3.block hg
      rw [hit] at h3; cases h3
    have hkit := hle3.none hit
    have hmlen : m.length = l.length := by rw [hlow.safe.1, hsl]
    repeat (first | refine rg_nil ?_ | refine eg_then ?_ | refine cg_block ?_)
    refine cg_loop (fun (seen : Array Nat) e k' => k' it = some (.mapIter (some r) cl seen cl) ∧ k' r = some (.map (es.map (toE keyW)).toArray cl) ∧ Le k k' ∧ MRow F.w0.heap.size k' (.slice av l.length cv) m ∧ PlsRes N2 k' r R ∧ (∀ p ∈ es, p.2.2 ∈ seen.toList → ∀ d ∈ R, d.1 = p.1 → heldP m d.2.2 = false) ∧ e = [(0, .is (.slice a l.length c)), (4, .is (.slice av l.length cv)), (5, .is (.map (some r))), (21, .is (.pointer (some ⟨it, 0, none⟩)))])
      (fun seen => restOf es seen) #[] ⟨hk4, hle4 _ _ g1, hle3.trans hle4, hm3.le hle4, hpl3.le hle4, fun p hp h => by simp at h, rfl⟩ ⟨rfl, rfl, rfl, rfl, trivial⟩ ?_
    clear hk4 hle4 hm3 hpl3 hle3
    rintro seen e k5 ⟨hi5, hr5, hle5, hm5, hpl5, hgood, rfl⟩
    repeat (first | refine cg_seq ?_ | refine cg_region ?_)
    refine r_next (enc := keyW) rfl rfl rfl rfl rfl rfl hi5 hr5 g4 hNit (fun hall => ?_) (fun p hp hns k6 ht6 hi6 => ?_)
    · have hcut : IsCut l (stableL l) m := hlow.fin hT hsl fun ps hps => by
        obtain ⟨d, hd, rfl⟩ := List.mem_map.1 hps
        have hmem : (d.1, d.2.1) ∈ es.map fun p => (p.1, p.2.1) := by rw [g2]; exact List.mem_map.2 ⟨d, hd, rfl⟩
        obtain ⟨p, hp, e⟩ := List.mem_map.1 hmem
        exact hgood p hp (hall p hp) d hd (congrArg Prod.fst e).symm
      obtain ⟨_, hsm⟩ := hm5.sl fun x hx => (hmok x hx).2
      repeat (first | refine cg_seq ?_ | refine cg_region ?_ | refine rg_nil ?_ | refine eg_then ?_ | refine qsp ?_ | refine qsn ?_ | refine cg_cond_false rfl ?_ | refine cg_block ?_ | refine cg_exit ?_ | refine eg_then_exit ?_ | refine eg_in_exit ?_)
      refine cg_loop (fun (i : Nat) e k' => ∃ v, Le k5 k' ∧ Row F.w0.heap.size k' 52 4 v i ((marksOf (l.take i) (m.take i)).flatMap Mark.vs) ∧ Apart k5 v ∧ i ≤ l.length ∧ e = [(4, .is (.slice av l.length cv)), (10, .is v), (52, .is (.slice a l.length c)), (53, .is (.int .i64 (l.length : Int))), (54, .is (.int .i64 (i : Int)))])
        (fun i => l.length - i) 0 ⟨.slice none 0 0, Le.refl _, row_nil _ _ _ _, apart_nil _ _ _, Nat.zero_le _, rfl⟩ ⟨rfl, rfl, rfl, rfl, rfl, trivial⟩ ?_
      rintro i e k6 ⟨v, hle6, hrow, hap, hi, rfl⟩
      repeat (first | refine cg_seq ?_ | refine cg_region ?_ | refine rg_nil ?_ | refine eg_then ?_ | refine qsp ?_)
      refine cg_cond rfl (fun h => ?_) (fun h => ?_)
      · have hlt : i < l.length := by simpa using h
        have hlm : i < m.length := by omega
        obtain ⟨bx, ox, cx, rfl, ⟨a0, c0, a1, c1, a2, c2, rfl, _, hok⟩, hcx⟩ := hl.el i l[i] (List.getElem?_eq_getElem hlt)
        obtain ⟨bm, om, cm', rfl, ⟨rfl, hmok'⟩, hcm⟩ := hsm.el i m[i] (List.getElem?_eq_getElem hlm)
        have hsn := marksOf_succ hlt hlm
        have hcx6 := hcx.le (hle5.trans hle6)
        repeat (first | refine cg_seq ?_ | refine cg_region ?_ | refine eg_then ?_ | refine qsp ?_ | refine qsi ?_ | refine qsg ?_ | refine cg_skip ?_ | refine cg_block ?_)
        refine rb rfl rfl rfl rfl (a_alloc rfl) ?_; intro b7 k7 hb7 hN7 hle7 hk7
        repeat (first | refine qsp ?_)
        refine rw1 rfl rfl rfl rfl rfl rfl rfl hk7 rfl (.inl hN7) ?_ ?_; (simp [Tp.vs, Mark.vs, OpenT.vs, Gone.vs, Tx.cs, View.cs, Rec.vs, Batch.cs, Who.vs, Pl.vs, Told.vs, Fact.vs, Place.vs, Value.oneCell']); intro k8 ht8 hk8
        have hle8 : Le k6 k8 := ht8 k6 hle7 hb7
        have hd := le_delV (hle6.trans hle8) hap
        have hcm2 := hcm.le hd
        have hb7v : v.ownBlock ≠ some b7 := fun hg => by
          obtain ⟨_, ob, h3⟩ := hrow.block hg
          rw [hb7] at h3; cases h3
        have c8 := (cells_at (vs := l[i].cs a0 c0 a1 c1 a2 c2) hk8 rfl).delV hb7v
        obtain ⟨r0, r1, r2⟩ := View.parts c8
        repeat (first | refine rg_nil ?_ | refine eg_then ?_)
        refine cg_app v (hrow.le hle8) rfl (by kernel_rfl) (by kernel_rfl) rfl rfl (m' := i + 1) (xs' := (marksOf (l.take i) (m.take i)).flatMap Mark.vs ++ (⟨l[i].tp, m[i]⟩ : Mark).vs) ?_
        rw [← hmlen]
        repeat (first | refine qvp ?_ | refine qvi ?_ | refine qvl ?_ | refine qvg ?_ | refine qvf ?_)
        refine we_s rfl (loc_det rfl (d_lit rfl rfl rfl)) ?_
        refine we_v rfl (loc_alloc rfl (a_slice rfl rfl rfl rfl (by kernel_rfl) rfl)) ?_
        refine we_app rfl rfl rfl rfl rfl (fun k1 u _ ⟨b, hu, hkb, _⟩ => ⟨b, 0, 1, hu, cells_at hkb rfl⟩) rfl (by simp [Mark.vs, Tp.vs, Value.oneCell']) rfl rfl (by unfold maxLen; omega) (by omega) ?_
        skip
        refine we_nil ⟨68, _, [(4, .is (.slice (some ⟨bm, om, none⟩) m.length cv)), (52, .is (.slice (some ⟨bx, ox, none⟩) m.length c)), (53, .is (.int .i64 (m.length : Int))), (54, .is (.int .i64 (i : Int)))], rfl, rfl, rfl, ⟨rfl, rfl, rfl, rfl, trivial⟩, fun v' k9 hrow9 ht9 => ?_⟩
        obtain ⟨hle9, hap9⟩ := ht9 k5 (hle6.trans hle8) hap
        rw [hmlen]
        repeat (first | refine cg_region ?_ | refine rg_nil ?_ | refine eg_then ?_ | refine qsp ?_ | refine qsa ?_ | refine eg_in_normal ?_)
        refine eg_again (i + 1) _ ⟨v', hle9, ?_, hap9, hlt, rfl⟩ (by omega) ⟨rfl, rfl, rfl, rfl, rfl, trivial⟩
        rw [hsn, List.flatMap_append]
        simpa using hrow9
      · repeat (first | refine cg_seq ?_ | refine cg_region ?_ | refine rg_nil ?_ | refine eg_then ?_ | refine qsp ?_ | refine cg_ret ?_ | refine cg_exit ?_ | refine eg_then_exit ?_ | refine eg_in_exit ?_)
        have hil : i = l.length := by simp at h; omega
        rw [hil, List.take_length, ← hmlen, List.take_length] at hrow
        have hrow : Row F.w0.heap.size k6 52 4 v (marksOf l m).length ((marksOf l m).flatMap Mark.vs) := by rw [marksOf_len hmlen, ← hmlen]; exact hrow
        have hmks : ∀ x ∈ marksOf l m, x.ok := fun x hx => by
          unfold marksOf at hx
          rw [List.mem_map] at hx
          obtain ⟨p, hp, rfl⟩ := hx
          have h1 := List.of_mem_zip hp
          exact ⟨(view_tp hl _ h1.1).1, (hmok _ h1.2).2⟩
        refine eg_jump_ret (eg_return2 rfl rfl rfl ?_)
        rw [CutN, if_pos hmay]
        exact ⟨m, v, hcut, fun n hn => (hmok n hn).1, rfl, hrow, hmks⟩
    · have hr6 := turn1_get ht6 hitr.symm hr5
      have hm6 : MRow _ _ _ _ := hm5.turn1 ht6 hitm
      have hpl6 := hpl5.turn1 ht6 hitr.symm hitrow
      have hle6 : Le k k6 := ht6 k hle5 hkit
      repeat (first | refine cg_seq ?_ | refine cg_region ?_ | refine rg_nil ?_ | refine eg_then ?_ | refine qsp ?_ | refine cg_cond_true rfl ?_ | refine cg_skip ?_ | refine cg_block ?_)
      refine rs rfl rfl (loc_det rfl (d_entry (enc := keyW) rfl rfl hi6 hr6 hp g3)) ?_
      obtain ⟨w, v, st⟩ := p
      have hmem : (w, v) ∈ R.map fun d => (d.1, d.2.1) := by rw [← g2]; exact List.mem_map.2 ⟨_, hp, rfl⟩
      obtain ⟨⟨w2, v2, ps⟩, hd, e⟩ := List.mem_map.1 hmem
      obtain ⟨e1, e2⟩ : w = w2 ∧ v = v2 := ⟨(congrArg Prod.fst e).symm, (congrArg Prod.snd e).symm⟩
      subst e1 e2
      obtain ⟨ap, cp, hv', hps⟩ := hpl6.sl _ hd
      simp only at hv'
      subst hv'
      have hps : Sl tPl k6 ap cp ps := hps
      have e1 := hps.cap; have e2 := hps.max; unfold maxLen at e2
      repeat (first | refine qsp ?_)
      refine rb rfl rfl rfl rfl (a_alloc rfl) ?_; intro b7 k7 hb7 hN7 hle7 hk7
      refine rw1 (vs := w.vs) rfl rfl rfl rfl rfl rfl rfl hk7 rfl (.inl hN7) (by simp [Who.vs, Value.oneCell']) ?_
      intro k8 ht8 hk8
      have hle8 : Le k6 k8 := ht8 k6 hle7 hb7
      have c8 := cells_at (vs := w.vs) hk8 rfl
      have hps8 := hps.le hle8
      have hm8 : MRow _ _ _ _ := hm6.le hle8
      have hpl8 := hpl6.le hle8
      obtain ⟨_, hsm⟩ := hm8.sl fun x hx => (hmok x hx).2
      have hrng := hT.range ps (hlow.sub ps (List.mem_map.2 ⟨_, hd, rfl⟩))
      repeat (first | refine cg_seq ?_ | refine cg_region ?_ | refine rg_nil ?_ | refine eg_then ?_ | refine qsp ?_)
      rw [← hmlen]
      refine rs rfl rfl (loc_call_is rfl rfl rfl rfl (held_ct hps8 hsm (by rw [hmlen]; exact hrng))) ?_
      repeat (first | refine rg_nil ?_ | refine eg_then ?_ | refine qsp ?_)
      rw [hmlen]
      cases hh : heldP m ps
      · repeat (first | refine cg_cond_true rfl ?_ | refine cg_exit ?_ | refine eg_then_exit ?_ | refine eg_in_exit ?_)
        refine eg_again (seen.push st) _ ⟨hle8 _ _ hi6, hle8 _ _ hr6, hle6.trans hle8, hm8, hpl8, fun q hq hqs d hdR hdq => ?_, rfl⟩ (rest_lt hp hns) ⟨rfl, rfl, rfl, rfl, trivial⟩
        simp only [Array.toList_push, List.mem_append, List.mem_singleton] at hqs
        rcases hqs with hqs | hqs
        · exact hgood q hq hqs d hdR hdq
        · have : q = (w, .slice ap ps.length cp, st) := stamp_inj (f := fun p => p.2.2) g3 hq hp hqs
          subst this
          have : d = (w, .slice ap ps.length cp, ps) := uniq_key hpl8.keys hdR hd hdq
          subst this
          exact hh
      have hr8 := hle8 _ _ hr6
      have hle8' := hle6.trans hle8
      repeat (first | refine cg_seq ?_ | refine cg_region ?_ | refine rg_nil ?_ | refine eg_then ?_ | refine qsp ?_ | refine qsn ?_ | refine cg_cond_false rfl ?_ | refine cg_skip ?_ | refine cg_block ?_)
      refine cg_loop (fun (j : Nat) e k' => Le k k' ∧ MRow F.w0.heap.size k' (.slice av l.length cv) (lowPs m (ps.take j)) ∧ PlsRes N2 k' r R ∧ k' r = some (.map (es.map (toE keyW)).toArray cl) ∧ Cells k' b7 0 w.vs ∧ Sl tPl k' ap cp ps ∧ (∀ x ∈ lowPs m (ps.take j), I64 x) ∧ j ≤ ps.length ∧ e = [(0, .is (.slice a l.length c)), (4, .is (.slice av l.length cv)), (5, .is (.map (some r))), (6, .is (.pointer (some ⟨b7, 0, none⟩))), (31, .is (.slice ap ps.length cp)), (32, .is (.int .i64 (ps.length : Int))), (33, .is (.int .i64 (j : Int)))])
        (fun j => ps.length - j) 0 (e0 := [(0, .is (.slice a l.length c)), (4, .is (.slice av l.length cv)), (5, .is (.map (some r))), (6, .is (.pointer (some ⟨b7, 0, none⟩))), (31, .is (.slice ap ps.length cp)), (32, .is (.int .i64 (ps.length : Int))), (33, .is (.int .i64 ((0 : Nat) : Int)))])
        ⟨hle8', hm8, hpl8, hr8, c8, hps8, fun x hx => (hmok x hx).2, Nat.zero_le _, rfl⟩ ⟨rfl, rfl, rfl, rfl, rfl, rfl, rfl, trivial⟩ ?_
      have hb7r : b7 ≠ r := some_ne hr6 hb7
      have hb7m : (Value.slice av l.length cv).ownBlock ≠ some b7 := fun hg => by
        obtain ⟨_, ob, h3⟩ := hm6.block hg
        rw [hb7] at h3; cases h3
      clear hle8' hm8 hpl8 hr8 c8 hps8 hsm hm6 hpl6 hm5 hpl5 hr5 hr6 hps
      rintro j e k9 ⟨hle9, hm9, hpl9, hr9, c9, hps9, hok9, hj, rfl⟩
      obtain ⟨cur, hcur⟩ : ∃ cur, cur = lowPs m (ps.take j) := ⟨_, rfl⟩
      rw [← hcur] at hm9 hok9
      have hcl : cur.length = l.length := by rw [hcur, lowPs_len, hmlen]
      repeat (first | refine cg_seq ?_ | refine cg_region ?_ | refine rg_nil ?_ | refine eg_then ?_ | refine qsp ?_)
      refine cg_cond rfl (fun h1 => ?_) (fun h1 => ?_)
      · have hjt : j < ps.length := by simpa using h1
        obtain ⟨q, hq⟩ : ∃ q, q = ps[j] := ⟨_, rfl⟩
        have hqm : q ∈ ps := by rw [hq]; exact List.getElem_mem hjt
        obtain ⟨by', oy, cy, rfl, ⟨rfl, hqok⟩, hcy⟩ := hps9.el j q (by rw [hq]; exact List.getElem?_eq_getElem hjt)
        obtain ⟨i, hi, hv⟩ := hrng q hqm
        have hbyg := (hpl9.own _ hd by' rfl).1
        repeat (first | refine cg_seq ?_ | refine cg_region ?_ | refine eg_then ?_ | refine qsi ?_ | refine qsg ?_ | refine cg_skip ?_ | refine cg_block ?_)
        refine rb rfl rfl rfl rfl (a_alloc rfl) ?_; intro b10 k10 hb10 hN10 hle10 hk10
        skip
        refine rw1 rfl rfl rfl rfl rfl rfl rfl hk10 rfl (.inl hN10) ?_ ?_; (simp [Tp.vs, Mark.vs, OpenT.vs, Gone.vs, Tx.cs, View.cs, Rec.vs, Batch.cs, Who.vs, Pl.vs, Told.vs, Fact.vs, Place.vs, Value.oneCell']); intro k11 ht11 hk11
        have hle11 : Le k9 k11 := ht11 k9 hle10 hb10
        have c11 := cells_at (vs := q.vs) hk11 rfl
        obtain ⟨p0, p1, p2⟩ := Pl.parts c11
        rw [hv] at p0
        have hrow11 : Row _ _ _ _ _ _ _ := hm9.le hle11
        obtain ⟨g, cap, cs, e0, hNg, hkg, him, hsz, hcg, hset⟩ := rowI_el hrow11 (i := i) (by omega)
        simp only [Value.slice.injEq] at e0
        obtain ⟨rfl, _, rfl⟩ := e0
        repeat (first | refine rg_nil ?_ | refine eg_then ?_)
        refine cg_fresh 12 [] (by kernel_rfl) (by kernel_rfl) rfl rfl rfl ?_
        dsimp only [List.take]
        repeat (first | refine qfp ?_ | refine qfi ?_ | refine qfl ?_ | refine qff ?_)
        refine fs_s rfl (loc_det rfl (d_min rfl rfl rfl)) rfl ?_
        repeat (first | refine qfi ?_)
        refine fs_nil ?_
        intro k12 vs hle12 _ _ _
        dsimp only [List.drop, nameE, nameP]
        refine rw0 rfl rfl rfl rfl rfl rfl rfl rfl (hle12 _ _ hkg) ?_ (.inl hNg) ?_
        · simp; omega
        intro k13 ht13 hk13
        have hav' := hav _ rfl
        simp only at hav'
        have hl12 := hle11.trans hle12
        have hle13 := ht13 k (hle9.trans hl12) hav'.1
        have hpl13 := (hpl9.le hl12).turn1 ht13 (by have := hpl9.N_le; omega) (fun d hd g' hg' => by have := (hpl9.own d hd g' hg').1; omega)
        have hstep : lowPs m (ps.take (j + 1)) = cur.set i (minI cur[i] q.first) := by
          rw [List.take_succ_eq_append_getElem hjt, lowPs_snoc, ← hcur, ← hq]
          unfold lowPl markAt
          rw [hv]
          simp [show i < cur.length by omega]
        repeat (first | refine cg_region ?_ | refine rg_nil ?_ | refine eg_then ?_ | refine qsp ?_ | refine qsa ?_ | refine eg_in_normal ?_)
        refine eg_again (j + 1) _ ⟨hle13, ?_, hpl13, turn1_get ht13 (by have := hpl9.N_le; omega) (hl12 _ _ hr9), (c9.le hl12).turn1 ht13 ?_, (hps9.le hl12).turn1 ht13 ?_ (fun _ _ h => h), ?_, hjt, rfl⟩ (by omega) ⟨rfl, rfl, rfl, rfl, rfl, rfl, rfl, trivial⟩
        · unfold MRow
          rw [hstep, List.length_set]
          exact hset k13 _ hk13
        · rintro rfl
          exact hb7m rfl
        · rintro ad e
          cases e
          simp only
          omega
        · rw [hstep]
          intro x hx
          rcases List.mem_or_eq_of_mem_set hx with hx | rfl
          · exact hok9 x hx
          · unfold minI
            split
            · exact hqok.2.1
            · exact hok9 _ (List.getElem_mem _)
      · have hjl : j = ps.length := by simp at h1; omega
        rw [hjl, List.take_length] at hcur
        repeat (first | refine cg_seq ?_ | refine cg_region ?_ | refine eg_then ?_ | refine qsp ?_ | refine qsg ?_ | refine cg_exit ?_ | refine eg_then_exit ?_ | refine eg_in_exit ?_)
        refine r_delete (t := 134) (enc := keyW) (x := w) rfl rfl rfl rfl rfl rfl rfl hr9 hNr ?_
        have ht13 := turn1_upd k9 r (.map ((delE w es).map (toE keyW)).toArray cl)
        have hm13 := MapAt.del1 (enc := keyW) (upd_same k9 r (.map ((delE w es).map (toE keyW)).toArray cl)) g3 g4
        rw [g2] at hm13
        have hpl13 := hpl9.del ht13 hm13
        have hle13 := ht13 k hle9 hkr
        have hm13' : MRow _ _ _ _ := hm9.turn1 ht13 (fun hg => by
          have := hpl9.N_le
          cases av with
          | none => cases hg
          | some ad =>
            have := (hav ad rfl).2
            cases hg
            omega)
        have hstep := hlow.step hT hsl (R' := (kdel1 w R).map (·.2.2)) (List.mem_map.2 ⟨_, hd, rfl⟩) hh (fun x hx => ?_) (fun x hx => ?_)
        · repeat (first | refine rg_nil ?_ | refine eg_then ?_)
          refine cg_goto ?_
          repeat (first | refine eg_in_goto ?_ | refine eg_then_goto ?_)
          refine eg_jump_goto (lowPs m ps, kdel1 w R) _ ⟨hmay, av, cv, r, N2, T, hle13, hcur ▸ hm13', hav, hpl13, hkr, hNr, hT, hstep, ?_, rfl⟩ ?_ ⟨rfl, rfl, rfl, trivial⟩
          · intro n hn
            exact ⟨lowPs_nonneg ps m (fun x hx => (hmok x hx).1) (places_first (firsts_ok hmay) hT (hlow.sub ps (List.mem_map.2 ⟨_, hd, rfl⟩))) n hn, hok9 n (hcur ▸ hn)⟩
          · have := kdel1_len (x := w) (l := R) (List.mem_map.2 ⟨_, hd, rfl⟩)
            simp only
            omega
        · obtain ⟨d, hdR, rfl⟩ := List.mem_map.1 hx
          by_cases e : d.1 = w
          · exact .inl (congrArg (fun d => d.2.2) (uniq_key hpl9.keys hdR hd e))
          · exact .inr (List.mem_map.2 ⟨d, kdel1_mem hdR e, rfl⟩)
        · obtain ⟨d, hdR, rfl⟩ := List.mem_map.1 hx
          exact List.mem_map.2 ⟨d, (kdel1_sub w R).subset hdR, rfl⟩
  · intro go
    repeat (first | refine cg_seq ?_ | refine cg_region ?_ | refine qsp ?_)
    refine rs rfl rfl (loc_call_is rfl rfl rfl rfl (may_ct hl hsmall)) ?_
    repeat (first | refine rg_nil ?_ | refine eg_then ?_ | refine qsp ?_)
    by_cases hmay : MayV l
    rotate_left
    · rw [decide_eq_false hmay]
      repeat (first | refine cg_seq ?_ | refine cg_region ?_ | refine rg_nil ?_ | refine eg_then ?_ | refine qsp ?_ | refine cg_cond_true rfl ?_ | refine cg_ret ?_ | refine eg_then_ret ?_)
      refine eg_jump_ret (eg_return2 rfl rfl rfl ?_)
      rw [CutN, if_neg hmay]
    rw [decide_eq_true hmay]
    have hfo := firsts_ok hmay
    repeat (first | refine cg_seq ?_ | refine cg_region ?_ | refine eg_then ?_ | refine qsp ?_ | refine cg_cond_false rfl ?_ | refine cg_skip ?_)
    refine rvn rfl rfl rfl rfl rfl rfl rfl (safe_ctn hl hb hsmall) ?_
    rintro N1 k1 vm hN1 hf1 hle1 hrow1
    obtain ⟨av, cv, e0, _⟩ := Row.sl (T := tInt) (by rw [← curR_eq]; exact hrow1) fun x hx => ⟨rfl, hsI x hx⟩
    rw [hsl] at e0
    subst e0
    repeat (first | refine qsp ?_)
    refine rvn rfl rfl rfl rfl rfl rfl rfl (places_ctn (hl.le hle1) hb hsmall) ?_
    rintro N2 k2 _ hN2 hf2 hle2 ⟨r, D, rfl, hpl, hG⟩
    repeat (first | refine cg_seq ?_ | refine rg_nil ?_ | refine eg_then ?_ | refine qsp ?_)
    refine cg_label (eg_then ?_)
    refine go (stableL l, D) _ _ _ ⟨hmay, av, cv, r, N2, D.map (·.2.2), hle1.trans hle2, ?_, fun ad e => ?_, hpl, ?_, Nat.le_trans hN2 hpl.N_le, ?_, Low.start, fun n hn => ⟨stable_nonneg hfo n hn, hsI n hn⟩, rfl⟩ ⟨rfl, rfl, rfl, trivial⟩
    · have := (hrow1.le hle2).N_le hN1
      unfold MRow
      rw [hsl] at this ⊢
      exact this
    · subst e
      obtain ⟨h1, ob, h2⟩ := hrow1.block (g := ad.block) rfl
      refine ⟨hf1 _ h1, ?_⟩
      by_cases hlt : ad.block < N2
      · exact hlt
      · have := hf2 ad.block (by omega)
        rw [h2] at this; cases this
    · exact hle1.none (hf2 r hpl.N_le)
    · have := hG.places
      rwa [show (toPls D).map (·.2) = D.map (·.2.2) by simp [toPls]] at this
theorem cut_ct {k : PH} {a : Option Addr} {c : Nat} {l : List View} (hl : Sl tView k a c l) (hb : l.length ≤ 1000000) (hsmall : SmallV l) :
    CT Tryz.prog 55 #[.slice a l.length c] k (CutR l) :=
  (cut_ctn hl hb hsmall).ct fun N k v h => by
    unfold CutN at h
    unfold CutR
    split
    · rename_i hm
      rw [if_pos hm] at h
      obtain ⟨m, v1, h1, h2, h3, h4, h5⟩ := h
      obtain ⟨a, c, rfl, hs⟩ := Row.sl (T := tMark) h4 fun x hx => ⟨rfl, h5 x hx⟩
      exact ⟨m, a, c, h1, h2, h3, hs⟩
    · rename_i hm
      rw [if_neg hm] at h
      exact h
end Go.Wm

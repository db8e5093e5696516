/-
  The walk of TxnsEnd. Conditions: that what is handed in reads as data.
-/
import Derived.Test.YtjonlpdnhbnmmaaQ5
set_option linter.all false
namespace Go.Wm
open Go.RowKit Go.Proofs
attribute [local irreducible] RG CG EG WA Loc Det Alc CT Exit.then Exit.inBlock Code.wp bodyPost
theorem end_last {l : List Gone} {g : Gone} {m : Nat} (hm : m = l.length) : (l ++ [g])[m]? = some g := by subst hm; simp
set_option maxHeartbeats 8000000 in
theorem txnsEnd_walk {k : PH} {ct : List Value} {t : Tx} {B0 : Prop} {kk base no : Int} (hT : tTx.rep k ct t) (_ : B0) (_ : I64 kk) (hI : I64 base) (hno : I64 no) (yes : Bool) :
    CT Try.prog 13 #[.agg ct.toArray, .int .i64 kk, .int .i64 base, .int .i64 no, .bool yes] k (fun _ v => v = .bool true) := by
  obtain ⟨a0, c0, a1, c1, a2, c2, rfl, ⟨ho, hg, hd⟩, hokT⟩ := hT
  refine ct_of_body (l := [_, _, _, _, _]) Try.func13 rfl Try.ntmps13 (by simp) (fun _ _ _ _ h => h) fun F hF0 hFm => ?_
  repeat (first | refine cg_seq ?_ | refine cg_region ?_)
  refine rb rfl rfl rfl rfl (a_box rfl rfl) ?_; intro b2 k2 hb2 hN2 hle2 hk2
  have cT := cells_at (vs := t.cs a0 c0 a1 c1 a2 c2) hk2 rfl
  have hT : TxAt k2 t a0 c0 a1 c1 a2 c2 := ⟨ho.le hle2, hg.le hle2, hd.le hle2⟩
  repeat (first | refine cg_seq ?_ | refine cg_region ?_ | refine rg_nil ?_ | refine eg_then ?_ | refine qsp ?_)
  refine rs rfl rfl (loc_call_is rfl rfl rfl rfl (live12_ct)) ?_
  repeat (first | refine cg_seq ?_ | refine cg_region ?_ | refine rg_nil ?_ | refine eg_then ?_ | refine qsp ?_ | refine qsg ?_)
  refine rs rfl rfl (loc_call_is rfl rfl rfl rfl (fewT_ct)) ?_
  repeat (first | refine qsp ?_)
  cases q1 : fewT t
  · repeat (first | refine cg_seq ?_ | refine cg_region ?_ | refine rg_nil ?_ | refine eg_then ?_ | refine qsp ?_ | refine qso ?_ | refine cg_cond_true rfl ?_ | refine cg_ret ?_ | refine eg_then_ret ?_)
    exact eg_return rfl rfl rfl
  obtain ⟨f0, f1, f2⟩ := fewT_iff q1
  obtain ⟨z0, z1, z2⟩ := Tx.parts cT
  have cT' := cT
  repeat (first | refine qsp ?_ | refine qsn ?_ | refine qsl ?_ | refine qsf ?_)
  cases q2 : ((t.openV.length : Int) == 0)
  rotate_left
  · repeat (first | refine cg_seq ?_ | refine cg_region ?_ | refine rg_nil ?_ | refine eg_then ?_ | refine qsp ?_ | refine qso ?_ | refine cg_cond_true rfl ?_ | refine cg_ret ?_ | refine eg_then_ret ?_)
    exact eg_return rfl rfl rfl
  have hpos : 0 < t.openV.length := List.length_pos_iff.2 (by simpa using q2)
  repeat (first | refine rg_nil ?_ | refine eg_then ?_ | refine qsp ?_)
  cases q3 : decide (base ≥ 1099511627776)
  rotate_left
  · repeat (first | refine cg_seq ?_ | refine cg_region ?_ | refine rg_nil ?_ | refine eg_then ?_ | refine qsp ?_ | refine cg_cond_true rfl ?_ | refine cg_ret ?_ | refine eg_then_ret ?_)
    exact eg_return rfl rfl rfl
  have hbase : base < 1099511627776 := by simp at q3; exact q3
  repeat (first | refine cg_seq ?_ | refine eg_then ?_ | refine cg_cond_false rfl ?_ | refine cg_skip ?_)
  have hm : low16 kk % t.openV.length < t.openV.length := Nat.mod_lt _ hpos
  obtain ⟨m, hmm⟩ : ∃ m, low16 kk % t.openV.length = m := ⟨_, rfl⟩
  rw [hmm] at hm
  obtain ⟨bx, ox, cx, ea0, ⟨ecx, hox⟩, hcx⟩ := hT.o.el m t.openV[m] (List.getElem?_eq_getElem hm)
  subst ecx
  subst ea0
  have hmem : t.openV[m] ∈ t.openV := List.getElem_mem hm
  generalize ho' : t.openV[m] = o at hcx hox hmem
  cases yes
  · skip
    refine cg_fresh 11 [12] (by kernel_rfl) (by kernel_rfl) rfl rfl rfl ?_
    dsimp only [List.take]
    repeat (first | refine qfp ?_ | refine qfl ?_ | refine qff ?_)
    refine fs_s rfl (loc_det rfl (d_and16 rfl rfl rfl)) rfl ?_
    repeat (first | refine qfn ?_ | refine qfl ?_ | refine qff ?_)
    refine fs_s rfl (loc_det rfl (d_rem rfl rfl rfl hpos)) rfl ?_
    rw [hmm]
    repeat (first | refine qfi ?_ | refine qfg ?_)
    refine fs_newN rfl rfl (a_alloc rfl) (fun _ => rfl) ?_
    refine fs_nil ?_
    intro k6 vs6 hle6 hvs6 _ _
    obtain ⟨b9, e9, hk9, hn9, hN9⟩ := hvs6 12 _ rfl
    clear hvs6
    dsimp only [List.drop]
    simp only [nameE, nameP]
    rw [e9]
    refine rw1 (vs := o.vs) rfl rfl rfl rfl rfl rfl rfl hk9 rfl (.inl hN9) ?_ ?_
    · simp [OpenT.vs, Value.oneCell']
    intro k7 ht7 hk7
    have hle7 : Le k2 k7 := ht7 k2 hle6 hn9
    have co := cells_at (vs := o.vs) hk7 rfl
    obtain ⟨o0, o1⟩ := OpenT.parts co
    have cT := cT.le hle7
    have hT := hT.le hle7
    repeat (first | refine cg_seq ?_ | refine cg_region ?_ | refine rg_nil ?_ | refine eg_then ?_ | refine qsp ?_ | refine qsl ?_ | refine qsf ?_ | refine cg_cond_false rfl ?_ | refine cg_skip ?_)
    refine rs rfl rfl (loc_call_is rfl rfl rfl rfl (end12_ct base o.pid 2)) ?_
    refine rb rfl rfl rfl rfl (a_alloc rfl) ?_; intro b14 k14 hb14 hN14 hle14 hk14
    refine rw1 (vs := (endB base o.pid 2).cs none 0) rfl rfl rfl rfl rfl rfl rfl hk14 rfl (.inl hN14) ?_ ?_
    · simp [Batch.cs, Value.oneCell']
    intro k15 ht15 hk15
    have hle15 : Le k7 k15 := ht15 k7 hle14 hb14
    repeat (first | refine cg_seq ?_ | refine cg_region ?_ | refine rg_nil ?_ | refine eg_then ?_ | refine qsp ?_ | refine qsf ?_)
    refine rw0 rfl rfl rfl rfl rfl rfl rfl rfl hk15 ?_ (.inl hN14) ?_
    · show 6 < 10
      omega
    intro k16 ht16 hk16
    have cb := cells_at (vs := (endN base o.pid no 2).cs none 0) hk16 rfl
    have hle16 : Le k7 k16 := ht16 k7 hle15 hb14
    have hT := hT.le hle16
    have cT := cT.le hle16
    have co := co.le hle16
    repeat (first | refine cg_seq ?_ | refine cg_region ?_ | refine rg_nil ?_ | refine eg_then ?_ | refine qsg ?_)
    refine rv rfl rfl rfl (loc_call rfl rfl rfl rfl PutRes.mono (txPut_ct hT (sl_none _ _) (show (endN base o.pid no 2).ok from ⟨hI, hI, hI, i64_0, hox.1, i64_0, hno, trivial, (show I64 2 from ⟨by decide, by decide⟩), trivial⟩) (by omega) (by omega) (by omega))) ?_
    rintro k17 hle17 _ ⟨p0, s0, p1, s1, p2, s2, rfl, hU⟩
    repeat (first | refine qsp ?_)
    refine rb rfl rfl rfl rfl (a_alloc rfl) ?_; intro b18 k18 hb18 hN18 hle18 hk18
    refine rw1 (vs := (putR t (endN base o.pid no 2)).cs p0 s0 p1 s1 p2 s2) rfl rfl rfl rfl rfl rfl rfl hk18 rfl (.inl hN18) ?_ ?_
    · simp [Tx.cs, Value.oneCell']
    intro k19 ht19 hk19
    have cu := cells_at (vs := (putR t (endN base o.pid no 2)).cs p0 s0 p1 s1 p2 s2) hk19 rfl
    have hle19 : Le k17 k19 := ht19 k17 hle18 hb18
    have hU := hU.le hle19
    have hT := hT.le (hle17.trans hle19)
    have cT := cT.le (hle17.trans hle19)
    have co := co.le (hle17.trans hle19)
    repeat (first | refine cg_seq ?_ | refine cg_region ?_ | refine rg_nil ?_ | refine eg_then ?_ | refine qsp ?_)
    cases q4 : (putErr t (endN base o.pid no 2) != 0)
    rotate_left
    · repeat (first | refine cg_seq ?_ | refine cg_region ?_ | refine rg_nil ?_ | refine eg_then ?_ | refine qsp ?_ | refine cg_cond_true rfl ?_ | refine cg_ret ?_ | refine eg_then_ret ?_)
      exact eg_return rfl rfl rfl
    have q4' : putErr t (endN base o.pid no 2) = 0 := by simpa using q4
    have eR : putR t (endN base o.pid no 2) = putT t (endN base o.pid no 2) := by rw [putR, if_pos q4']
    obtain ⟨g1, g2, g3, g4⟩ := endF q4' hmem (.inr rfl) hbase
    have hb0 := (chk_form (putErr_iff.1 q4').2.1).base.1
    change 0 ≤ base at hb0
    rw [eR] at cu hU
    generalize putT t (endN base o.pid no 2) = u at g2 g3 g4 cu hU
    have g5 : u.gone = t.gone ++ [⟨o.pid, no, o.first, base⟩] := by rw [g2]; rfl
    have g6 : u.openV.length + 1 = t.openV.length := by rw [g2]; exact g1
    have g7 : u.done = t.done := by rw [g2]; rfl
    have g8 : u.gone.length = t.gone.length + 1 := by rw [g5]; simp
    have g9 : u.done.length = t.done.length := by rw [g7]
    obtain ⟨o0, o1⟩ := OpenT.parts co
    repeat (first | refine cg_seq ?_ | refine cg_region ?_ | refine eg_then ?_ | refine qsp ?_ | refine qsa ?_ | refine qsl ?_ | refine qsf ?_ | refine cg_cond_false rfl ?_ | refine cg_skip ?_)
    refine rs rfl rfl (loc_call_is rfl rfl rfl rfl (end12_ct (base + 1) o.pid 2)) ?_
    refine rb rfl rfl rfl rfl (a_alloc rfl) ?_; intro b20 k20 hb20 hN20 hle20 hk20
    refine rw1 (vs := (endB (base + 1) o.pid 2).cs none 0) rfl rfl rfl rfl rfl rfl rfl hk20 rfl (.inl hN20) ?_ ?_
    · simp [Batch.cs, Value.oneCell']
    intro k21 ht21 hk21
    have ca := cells_at (vs := (endB (base + 1) o.pid 2).cs none 0) hk21 rfl
    have hle21 : Le k19 k21 := ht21 k19 hle20 hb20
    have hU := hU.le hle21
    have cT := cT.le hle21
    have co := co.le hle21
    have cu := cu.le hle21
    have hI1 : I64 (base + 1) := ⟨by omega, by omega⟩
    repeat (first | refine cg_seq ?_ | refine cg_region ?_ | refine rg_nil ?_ | refine eg_then ?_ | refine qsg ?_)
    refine rv rfl rfl rfl (loc_call rfl rfl rfl rfl PutRes.mono (txPut_ct hU (sl_none _ _) (show (endB (base + 1) o.pid 2).ok from endOk hI1 hox.1 ⟨by decide, by decide⟩) (by omega) (by omega) (by omega))) ?_
    rintro k22 hle22 _ ⟨r0, v0, r1, v1, r2, v2, rfl, hY⟩
    have eR2 : putR u (endB (base + 1) o.pid 2) = u := by rw [putR, if_pos g3, g4]
    rw [eR2] at hY ⊢
    rw [g3]
    repeat (first | refine qsp ?_)
    refine rb rfl rfl rfl rfl (a_alloc rfl) ?_; intro b23 k23 hb23 hN23 hle23 hk23
    refine rw1 (vs := u.cs r0 v0 r1 v1 r2 v2) rfl rfl rfl rfl rfl rfl rfl hk23 rfl (.inl hN23) ?_ ?_
    · simp [Tx.cs, Value.oneCell']
    intro k24 ht24 hk24
    have cy := cells_at (vs := u.cs r0 v0 r1 v1 r2 v2) hk24 rfl
    have hle24 : Le k22 k24 := ht24 k22 hle23 hb23
    have hY := hY.le hle24
    have hU := hU.le (hle22.trans hle24)
    have cT := cT.le (hle22.trans hle24)
    have co := co.le (hle22.trans hle24)
    have cu := cu.le (hle22.trans hle24)
    obtain ⟨o0, o1⟩ := OpenT.parts co
    obtain ⟨z0, z1, z2⟩ := Tx.parts cT
    obtain ⟨x0, x1, x2⟩ := Tx.parts cu
    have cu' := cu
    obtain ⟨bl, ol, cl, el, ⟨ecl, _⟩, hcl⟩ := hU.g.el t.gone.length ⟨o.pid, no, o.first, base⟩ (by rw [g5]; exact end_last rfl)
    subst ecl
    subst el
    have hlu : t.gone.length < u.gone.length := by omega
    have hsm := sameTx_ct hU.o hU.g hU.d hY.o hY.g hY.d
    rw [decide_eq_true rfl] at hsm
    repeat (first | refine cg_seq ?_ | refine cg_region ?_ | refine rg_nil ?_ | refine eg_then ?_ | refine qsp ?_ | refine qsn ?_ | refine qsl ?_ | refine qsf ?_ | refine cg_cond_false rfl ?_ | refine cg_skip ?_)
    rw [show ((u.gone.length : Int) == 0) = false from beq_eq_false_iff_ne.2 (by omega)]
    repeat (first | refine rg_nil ?_ | refine eg_then ?_ | refine qsp ?_ | refine qsn ?_ | refine qss ?_ | refine qsl ?_ | refine qsf ?_)
    rw [show ((u.openV.length : Int) != (t.openV.length : Int) - 1) = false from bne_eq_false_iff_eq.2 (by omega)]
    repeat (first | refine cg_seq ?_ | refine eg_then ?_ | refine cg_cond_false rfl ?_ | refine cg_skip ?_)
    refine cg_any (by kernel_rfl) rfl ?_
    repeat (first | refine qwp ?_ | refine qwn ?_ | refine qws ?_)
    rw [show (u.gone.length : Int) - 1 = (t.gone.length : Int) by omega]
    repeat (first | refine qwp ?_ | refine qwi ?_ | refine qwl ?_ | refine qwg ?_ | refine qwf ?_)
    refine ws rfl (loc_det rfl (d_lit (cells := (⟨o.pid, no, o.first, base⟩ : Gone).vs) rfl rfl rfl)) ?_
    repeat (first | refine qwp ?_ | refine qwE ?_)
    rw [show decide ((⟨o.pid, no, o.first, base⟩ : Gone) = ⟨o.pid, no, o.first, base⟩) = true from decide_eq_true rfl]
    repeat (first | refine qwg ?_)
    refine ws rfl (loc_call_is rfl rfl rfl rfl (hsm)) ?_
    repeat (first | refine qwp ?_ | (refine wn rfl ?_; refine eg_then ?_))
    repeat (first | refine cg_ret ?_)
    exact eg_return rfl rfl rfl
  · skip
    refine cg_fresh 11 [12] (by kernel_rfl) (by kernel_rfl) rfl rfl rfl ?_
    dsimp only [List.take]
    repeat (first | refine qfp ?_ | refine qfl ?_ | refine qff ?_)
    refine fs_s rfl (loc_det rfl (d_and16 rfl rfl rfl)) rfl ?_
    repeat (first | refine qfn ?_ | refine qfl ?_ | refine qff ?_)
    refine fs_s rfl (loc_det rfl (d_rem rfl rfl rfl hpos)) rfl ?_
    rw [hmm]
    repeat (first | refine qfi ?_ | refine qfg ?_)
    refine fs_newN rfl rfl (a_alloc rfl) (fun _ => rfl) ?_
    refine fs_nil ?_
    intro k6 vs6 hle6 hvs6 _ _
    obtain ⟨b9, e9, hk9, hn9, hN9⟩ := hvs6 12 _ rfl
    clear hvs6
    dsimp only [List.drop]
    simp only [nameE, nameP]
    rw [e9]
    refine rw1 (vs := o.vs) rfl rfl rfl rfl rfl rfl rfl hk9 rfl (.inl hN9) ?_ ?_
    · simp [OpenT.vs, Value.oneCell']
    intro k7 ht7 hk7
    have hle7 : Le k2 k7 := ht7 k2 hle6 hn9
    have co := cells_at (vs := o.vs) hk7 rfl
    obtain ⟨o0, o1⟩ := OpenT.parts co
    have cT := cT.le hle7
    have hT := hT.le hle7
    repeat (first | refine cg_seq ?_ | refine cg_region ?_ | refine rg_nil ?_ | refine eg_then ?_ | refine qsp ?_ | refine qsl ?_ | refine qsf ?_ | refine cg_cond_true rfl ?_)
    refine rs rfl rfl (loc_call_is rfl rfl rfl rfl (end12_ct base o.pid 1)) ?_
    refine rb rfl rfl rfl rfl (a_alloc rfl) ?_; intro b14 k14 hb14 hN14 hle14 hk14
    refine rw1 (vs := (endB base o.pid 1).cs none 0) rfl rfl rfl rfl rfl rfl rfl hk14 rfl (.inl hN14) ?_ ?_
    · simp [Batch.cs, Value.oneCell']
    intro k15 ht15 hk15
    have hle15 : Le k7 k15 := ht15 k7 hle14 hb14
    repeat (first | refine cg_seq ?_ | refine cg_region ?_ | refine rg_nil ?_ | refine eg_then ?_ | refine qsp ?_ | refine qsf ?_)
    refine rw0 rfl rfl rfl rfl rfl rfl rfl rfl hk15 ?_ (.inl hN14) ?_
    · show 6 < 10
      omega
    intro k16 ht16 hk16
    have cb := cells_at (vs := (endN base o.pid no 1).cs none 0) hk16 rfl
    have hle16 : Le k7 k16 := ht16 k7 hle15 hb14
    have hT := hT.le hle16
    have cT := cT.le hle16
    have co := co.le hle16
    repeat (first | refine cg_seq ?_ | refine cg_region ?_ | refine rg_nil ?_ | refine eg_then ?_ | refine qsg ?_)
    refine rv rfl rfl rfl (loc_call rfl rfl rfl rfl PutRes.mono (txPut_ct hT (sl_none _ _) (show (endN base o.pid no 1).ok from ⟨hI, hI, hI, i64_0, hox.1, i64_0, hno, trivial, (show I64 1 from ⟨by decide, by decide⟩), trivial⟩) (by omega) (by omega) (by omega))) ?_
    rintro k17 hle17 _ ⟨p0, s0, p1, s1, p2, s2, rfl, hU⟩
    repeat (first | refine qsp ?_)
    refine rb rfl rfl rfl rfl (a_alloc rfl) ?_; intro b18 k18 hb18 hN18 hle18 hk18
    refine rw1 (vs := (putR t (endN base o.pid no 1)).cs p0 s0 p1 s1 p2 s2) rfl rfl rfl rfl rfl rfl rfl hk18 rfl (.inl hN18) ?_ ?_
    · simp [Tx.cs, Value.oneCell']
    intro k19 ht19 hk19
    have cu := cells_at (vs := (putR t (endN base o.pid no 1)).cs p0 s0 p1 s1 p2 s2) hk19 rfl
    have hle19 : Le k17 k19 := ht19 k17 hle18 hb18
    have hU := hU.le hle19
    have hT := hT.le (hle17.trans hle19)
    have cT := cT.le (hle17.trans hle19)
    have co := co.le (hle17.trans hle19)
    repeat (first | refine cg_seq ?_ | refine cg_region ?_ | refine rg_nil ?_ | refine eg_then ?_ | refine qsp ?_)
    cases q4 : (putErr t (endN base o.pid no 1) != 0)
    rotate_left
    · repeat (first | refine cg_seq ?_ | refine cg_region ?_ | refine rg_nil ?_ | refine eg_then ?_ | refine qsp ?_ | refine cg_cond_true rfl ?_ | refine cg_ret ?_ | refine eg_then_ret ?_)
      exact eg_return rfl rfl rfl
    have q4' : putErr t (endN base o.pid no 1) = 0 := by simpa using q4
    have eR : putR t (endN base o.pid no 1) = putT t (endN base o.pid no 1) := by rw [putR, if_pos q4']
    obtain ⟨g1, g2, g3, g4⟩ := endF q4' hmem (.inl rfl) hbase
    have hb0 := (chk_form (putErr_iff.1 q4').2.1).base.1
    change 0 ≤ base at hb0
    rw [eR] at cu hU
    generalize putT t (endN base o.pid no 1) = u at g2 g3 g4 cu hU
    have g5 : u.done = t.done ++ [⟨o.pid, no, o.first, base⟩] := by rw [g2]; rfl
    have g6 : u.openV.length + 1 = t.openV.length := by rw [g2]; exact g1
    have g7 : u.gone = t.gone := by rw [g2]; rfl
    have g8 : u.done.length = t.done.length + 1 := by rw [g5]; simp
    have g9 : u.gone.length = t.gone.length := by rw [g7]
    obtain ⟨o0, o1⟩ := OpenT.parts co
    repeat (first | refine cg_seq ?_ | refine cg_region ?_ | refine eg_then ?_ | refine qsp ?_ | refine qsa ?_ | refine qsl ?_ | refine qsf ?_ | refine cg_cond_false rfl ?_ | refine cg_skip ?_)
    refine rs rfl rfl (loc_call_is rfl rfl rfl rfl (end12_ct (base + 1) o.pid 1)) ?_
    refine rb rfl rfl rfl rfl (a_alloc rfl) ?_; intro b20 k20 hb20 hN20 hle20 hk20
    refine rw1 (vs := (endB (base + 1) o.pid 1).cs none 0) rfl rfl rfl rfl rfl rfl rfl hk20 rfl (.inl hN20) ?_ ?_
    · simp [Batch.cs, Value.oneCell']
    intro k21 ht21 hk21
    have ca := cells_at (vs := (endB (base + 1) o.pid 1).cs none 0) hk21 rfl
    have hle21 : Le k19 k21 := ht21 k19 hle20 hb20
    have hU := hU.le hle21
    have cT := cT.le hle21
    have co := co.le hle21
    have cu := cu.le hle21
    have hI1 : I64 (base + 1) := ⟨by omega, by omega⟩
    repeat (first | refine cg_seq ?_ | refine cg_region ?_ | refine rg_nil ?_ | refine eg_then ?_ | refine qsg ?_)
    refine rv rfl rfl rfl (loc_call rfl rfl rfl rfl PutRes.mono (txPut_ct hU (sl_none _ _) (show (endB (base + 1) o.pid 1).ok from endOk hI1 hox.1 ⟨by decide, by decide⟩) (by omega) (by omega) (by omega))) ?_
    rintro k22 hle22 _ ⟨r0, v0, r1, v1, r2, v2, rfl, hY⟩
    have eR2 : putR u (endB (base + 1) o.pid 1) = u := by rw [putR, if_pos g3, g4]
    rw [eR2] at hY ⊢
    rw [g3]
    repeat (first | refine qsp ?_)
    refine rb rfl rfl rfl rfl (a_alloc rfl) ?_; intro b23 k23 hb23 hN23 hle23 hk23
    refine rw1 (vs := u.cs r0 v0 r1 v1 r2 v2) rfl rfl rfl rfl rfl rfl rfl hk23 rfl (.inl hN23) ?_ ?_
    · simp [Tx.cs, Value.oneCell']
    intro k24 ht24 hk24
    have cy := cells_at (vs := u.cs r0 v0 r1 v1 r2 v2) hk24 rfl
    have hle24 : Le k22 k24 := ht24 k22 hle23 hb23
    have hY := hY.le hle24
    have hU := hU.le (hle22.trans hle24)
    have cT := cT.le (hle22.trans hle24)
    have co := co.le (hle22.trans hle24)
    have cu := cu.le (hle22.trans hle24)
    obtain ⟨o0, o1⟩ := OpenT.parts co
    obtain ⟨z0, z1, z2⟩ := Tx.parts cT
    obtain ⟨x0, x1, x2⟩ := Tx.parts cu
    have cu' := cu
    obtain ⟨bl, ol, cl, el, ⟨ecl, _⟩, hcl⟩ := hU.d.el t.done.length ⟨o.pid, no, o.first, base⟩ (by rw [g5]; exact end_last rfl)
    subst ecl
    subst el
    have hlu : t.done.length < u.done.length := by omega
    have hsm := sameTx_ct hU.o hU.g hU.d hY.o hY.g hY.d
    rw [decide_eq_true rfl] at hsm
    repeat (first | refine cg_seq ?_ | refine cg_region ?_ | refine rg_nil ?_ | refine eg_then ?_ | refine qsp ?_ | refine qsn ?_ | refine qsl ?_ | refine qsf ?_ | refine cg_cond_true rfl ?_)
    rw [show ((u.done.length : Int) == 0) = false from beq_eq_false_iff_ne.2 (by omega)]
    repeat (first | refine rg_nil ?_ | refine eg_then ?_ | refine qsp ?_ | refine qsn ?_ | refine qss ?_ | refine qsl ?_ | refine qsf ?_)
    rw [show ((u.openV.length : Int) != (t.openV.length : Int) - 1) = false from bne_eq_false_iff_eq.2 (by omega)]
    repeat (first | refine cg_seq ?_ | refine eg_then ?_ | refine cg_cond_false rfl ?_ | refine cg_skip ?_)
    refine cg_any (by kernel_rfl) rfl ?_
    repeat (first | refine qwp ?_ | refine qwn ?_ | refine qws ?_)
    rw [show (u.done.length : Int) - 1 = (t.done.length : Int) by omega]
    repeat (first | refine qwp ?_ | refine qwi ?_ | refine qwl ?_ | refine qwg ?_ | refine qwf ?_)
    refine ws rfl (loc_det rfl (d_lit (cells := (⟨o.pid, no, o.first, base⟩ : Gone).vs) rfl rfl rfl)) ?_
    repeat (first | refine qwp ?_ | refine qwE ?_)
    rw [show decide ((⟨o.pid, no, o.first, base⟩ : Gone) = ⟨o.pid, no, o.first, base⟩) = true from decide_eq_true rfl]
    repeat (first | refine qwg ?_)
    refine ws rfl (loc_call_is rfl rfl rfl rfl (hsm)) ?_
    repeat (first | refine qwp ?_ | (refine wn rfl ?_; refine eg_then ?_))
    repeat (first | refine cg_ret ?_)
    exact eg_return rfl rfl rfl
end Go.Wm

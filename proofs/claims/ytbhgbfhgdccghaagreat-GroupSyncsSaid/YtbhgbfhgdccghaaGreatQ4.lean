/-
  The target: the document's. Conditions: that members and partitions read as data, and that they are few.
-/
import Derived.Test.YtbhgbfhgdccghaaGreatQ3
import Derived.Test.YtbhgbfhgdccghaaGreatS9
set_option linter.all false
namespace Go.Wm
open Go.RowKit Go.Proofs
attribute [local irreducible] RG CG EG WA Loc Det Alc CT Exit.then Exit.inBlock Code.wp bodyPost
attribute [local irreducible] WF LocG Exit.jump

theorem idxF_take_succ {α : Type} {l : List α} {f : α → Bool} {i : Nat} (h : i < l.length) : idxF (l.take (i + 1)) f = if idxF (l.take i) f < 0 ∧ f l[i] = true then (i : Int) else idxF (l.take i) f := by
  rcases idxF_range (l.take i) f with h0 | ⟨j, hj, hjl, hfj⟩
  · have hno : ∀ x ∈ l.take i, f x = false := by
      unfold idxF at h0
      split at h0
      · omega
      · rename_i hn
        rw [List.findIdx?_eq_none_iff] at hn
        exact fun x hx => hn x hx
    by_cases hf : f l[i] = true
    · rw [if_pos ⟨by omega, hf⟩]
      have hl1 : i < (l.take (i + 1)).length := by rw [List.length_take]; omega
      refine idxF_at hl1 (by simpa using hf) fun x hx => hno x ?_
      rw [List.take_take] at hx
      rwa [Nat.min_eq_left (by omega)] at hx
    · rw [if_neg (fun hh => hf hh.2), h0]
      refine idxF_no fun x hx => ?_
      rw [mem_take_succ h] at hx
      rcases hx with hx | hx
      · exact hno x hx
      · rw [hx]; simpa using hf
  · rw [if_neg (fun hh => by omega), hj]
    unfold idxF at hj ⊢
    split at hj
    · rename_i i' hi'
      have hii : i' = j := by omega
      subst hii
      rw [List.findIdx?_eq_some_iff_getElem] at hi'
      obtain ⟨h1, h2, h3⟩ := hi'
      have hl2 := List.length_take (i := i) (l := l)
      have : (l.take (i + 1)).findIdx? f = some i' := by
        rw [List.findIdx?_eq_some_iff_getElem]
        refine ⟨by rw [List.length_take]; omega, ?_, fun q hq => ?_⟩
        · simpa using h2
        · have := h3 q hq
          simpa using this
      rw [this]
    · omega
theorem idxF_zero {α : Type} (l : List α) (f : α → Bool) : idxF (l.take 0) f = -1 := by simp [idxF]
/-- The block of what each partition's owner is. -/
def GotAt (h0 k : PH) (bg : Nat) (w : List Int) : Prop := Le h0 k ∧ h0 bg = none ∧ k bg = some (.cells (w.map (Value.int .i64)).toArray 3 (0, 0))
theorem GotAt.up {h0 k k' : PH} {bg : Nat} {w : List Int} (h : GotAt h0 k bg w) (hl : Le k k') : GotAt h0 k' bg w := ⟨h.1.trans hl, h.2.1, hl _ _ h.2.2⟩
theorem GotAt.set {h0 k k' : PH} {bg : Nat} {w : List Int} (h : GotAt h0 k bg w) {p : Nat} {x : Int} (ht : Turn1 k k' bg) (hk : k' bg = some (.cells ((w.map (Value.int .i64)).toArray.setIfInBounds p (.int .i64 x)) 3 (0, 0))) : GotAt h0 k' bg (w.set p x) :=
  ⟨ht h0 h.1 h.2.1, h.2.1, by rw [← set_ints]; exact hk⟩
theorem WInv.i64 {l : List Member} {tps : List Tp} {w : List Int} (h : WInv l tps w) (hl : l.length ≤ 1000000) : ∀ x ∈ w, I64 x := by
  intro x hx
  obtain ⟨p, hp⟩ := List.getElem?_of_mem hx
  have hpl : p < w.length := (List.getElem?_eq_some_iff.1 hp).1
  have hpt : p < tps.length := by rw [← h.len]; exact hpl
  rcases h.at' p x tps[p] hp (List.getElem?_eq_getElem hpt) with h1 | ⟨i, h1, hi, _⟩
  · rw [h1]; unfold I64; omega
  · rw [h1]; unfold I64; omega
set_option maxHeartbeats 4000000 in
theorem refTarget_ct {k : PH} {la ta : Option Addr} {lc tc : Nat} {l : List Member} {tps : List Tp} (hl : Sl tMember k la lc l) (ht : Sl tTp k ta tc tps) (hb : l.length ≤ 1000000) (hbt : tps.length ≤ 1000000) :
    CT Tryz.prog 39 #[.slice la l.length lc, .slice ta tps.length tc] k (fun k' v => ∃ a c r er, v = .tuple #[.slice a r.length c, .int .i64 er] ∧ Sl (tSl tTp) k' a c r ∧ TgtR l tps r er) := by
  refine ct_of_body (l := [_, _]) Tryz.func39 rfl Tryz.ntmps39 (by simp) (fun k k' v hle ⟨a, c, r, er, h1, h2, h3⟩ => ⟨a, c, r, er, h1, h2.le hle, h3⟩) fun F hF0 hFm => ?_
  have b1 := hl.cap; have b2 := hl.max; unfold maxLen at b2
  have b3 := ht.cap; have b4 := ht.max; unfold maxLen at b4
  repeat (first | refine cg_seq ?_ | refine cg_region ?_ | refine rg_nil ?_ | refine eg_then ?_ | refine qsp ?_)
  have hmc := refMembers_ct hl
  generalize hM : okM l = bM at hmc
  refine rs rfl rfl (loc_call_is rfl rfl rfl rfl (hmc)) ?_
  repeat (first | refine qsp ?_)
  cases bM with
  | false =>
    repeat (first | refine cg_seq ?_ | refine cg_region ?_ | refine rg_nil ?_ | refine eg_then ?_ | refine qsp ?_ | refine qso ?_ | refine cg_cond_true rfl ?_ | refine cg_ret ?_ | refine eg_then_ret ?_)
    exact eg_return2 rfl rfl rfl ⟨none, 0, [], 1, rfl, ⟨by simp, by simp [maxLen], fun _ => rfl, by simp, by simp⟩, fun _ => ⟨rfl, rfl⟩, fun h => by simp only [okT, hM, Bool.false_and] at h; cases h⟩
  | true =>
  repeat (first | refine qsp ?_)
  refine rs rfl rfl (loc_call_is rfl rfl rfl rfl (parts22_ct ht)) ?_
  repeat (first | refine rg_nil ?_ | refine eg_then ?_ | refine qsp ?_)
  by_cases hN : tps.Nodup
  · refine cg_cond_false (by simp [opv, get, Nat.beq, hN]) ?_
    have hok : okT l tps = true := by simp only [okT, hM, hN, decide_true, Bool.and_self]
    repeat (first | refine cg_seq ?_ | refine cg_region ?_ | refine eg_then ?_ | refine qsp ?_ | refine qsn ?_ | refine cg_skip ?_)
    refine rb rfl rfl rfl rfl (a_makeSlice (m := tps.length) (c := tps.length) rfl rfl rfl (Nat.le_refl _) (by omega) (by omega)) ?_; intro bg k2 hbg hNg hle2 hk2
    have hwl := wInit_len l tps
    have ga0 : GotAt k k2 bg (half (wInit l tps) 0) := ⟨hle2, hbg, by rw [hk2, half_zero, hwl, made_ints]⟩
    repeat (first | refine cg_seq ?_ | refine cg_region ?_ | refine rg_nil ?_ | refine eg_then ?_ | refine qsp ?_ | refine qsn ?_ | refine cg_block ?_)
    refine cg_loop (fun (p : Nat) e k' => GotAt k k' bg (half (wInit l tps) p) ∧ p ≤ tps.length ∧ e = [(0, .is (.slice la l.length lc)), (1, .is (.slice ta tps.length tc)), (6, .is (.slice (some ⟨bg, 0, none⟩) tps.length tps.length)), (31, .is (.slice ta tps.length tc)), (32, .is (.int .i64 (tps.length : Int))), (33, .is (.int .i64 (p : Int)))])
      (fun p => tps.length - p) 0 ⟨ga0, Nat.zero_le _, rfl⟩ ⟨rfl, rfl, rfl, rfl, rfl, rfl, trivial⟩ ?_
    rintro p e k3 ⟨ga3, hp, rfl⟩
    repeat (first | refine cg_seq ?_ | refine cg_region ?_ | refine rg_nil ?_ | refine eg_then ?_ | refine qsp ?_)
    refine cg_cond rfl (fun h => ?_) (fun h => ?_)
    · have hlt : p < tps.length := by simpa using h
      obtain ⟨bx, ox, cx, rfl, ⟨rfl, _⟩, hcx⟩ := (ht.le ga3.1).el p tps[p] (List.getElem?_eq_getElem hlt)
      have hhl : (half (wInit l tps) p).length = tps.length := by rw [half_len (by omega), hwl]
      repeat (first | refine cg_seq ?_ | refine cg_region ?_ | refine eg_then ?_ | refine qsp ?_ | refine qsi ?_ | refine qsg ?_ | refine cg_skip ?_ | refine cg_block ?_)
      refine rb rfl rfl rfl rfl (a_alloc rfl) ?_; intro b6 k6 hb6 hN6 hle6 hk6
      repeat (first | refine qsp ?_)
      refine rw1 rfl rfl rfl rfl rfl rfl rfl hk6 rfl (.inl hN6) ?_ ?_; (simp [Tp.vs, Member.cs, Group.cs, Value.oneCell']); intro k7 ht7 hk7
      have ga7 := ga3.up (ht7 k3 hle6 hb6)
      have hne : bg ≠ b6 := by rintro rfl; have := ga3.2.2; rw [hb6] at this; cases this
      repeat (first | refine cg_seq ?_ | refine cg_region ?_ | refine rg_nil ?_ | refine eg_then ?_ | refine qsp ?_ | refine qsi ?_)
      refine rw0 rfl rfl rfl rfl rfl rfl rfl rfl ga7.2.2 ?_ (.inl hNg) ?_
      · simp; omega
      intro k8 ht8 hk8
      simp only [Nat.zero_add, Nat.mul_one] at hk8
      have ga8 := ga7.set ht8 hk8
      have hk8b : k8 b6 = some _ := turn1_get ht8 (Ne.symm hne) hk7
      generalize hf : (fun m : Member => decide (tps[p] ∈ m.own) && decide (tps[p].topic ∈ m.subs)) = f
      repeat (first | refine cg_seq ?_ | refine cg_region ?_ | refine rg_nil ?_ | refine eg_then ?_ | refine qsp ?_ | refine qsn ?_ | refine cg_block ?_)
      refine cg_loop (fun (i : Nat) e k' => GotAt k k' bg ((half (wInit l tps) p).set p (idxF (l.take i) f)) ∧ Cells k' b6 0 tps[p].vs ∧ i ≤ l.length ∧ e = [(0, .is (.slice la l.length lc)), (1, .is (.slice (some ⟨bx, ox, none⟩) tps.length tc)), (6, .is (.slice (some ⟨bg, 0, none⟩) tps.length tps.length)), (7, .is (.int .i64 (p : Int))), (8, .is (.pointer (some ⟨b6, 0, none⟩))), (31, .is (.slice (some ⟨bx, ox, none⟩) tps.length tc)), (32, .is (.int .i64 (tps.length : Int))), (33, .is (.int .i64 (p : Int))), (41, .is (.slice la l.length lc)), (42, .is (.int .i64 (l.length : Int))), (43, .is (.int .i64 (i : Int)))])
        (fun i => l.length - i) 0 ⟨by rw [idxF_zero]; exact ga8, cells_at (vs := tps[p].vs) hk8b rfl, Nat.zero_le _, rfl⟩ ⟨rfl, rfl, rfl, rfl, rfl, rfl, rfl, rfl, rfl, rfl, rfl, trivial⟩ ?_
      rintro i e k9 ⟨ga9, ct9, hi, rfl⟩
      repeat (first | refine cg_seq ?_ | refine cg_region ?_ | refine rg_nil ?_ | refine eg_then ?_ | refine qsp ?_)
      refine cg_cond rfl (fun h1 => ?_) (fun h1 => ?_)
      · have hil : i < l.length := by simpa using h1
        obtain ⟨by', oy, cy, rfl, ⟨sa, sc, oa, oc, rfl, ⟨hsub, hown⟩, hid⟩, hcy⟩ := (hl.le ga9.1).el i l[i] (List.getElem?_eq_getElem hil)
        have hnx := idxF_take_succ (f := f) hil
        repeat (first | refine cg_seq ?_ | refine cg_region ?_ | refine eg_then ?_ | refine qsp ?_ | refine qsi ?_ | refine qsg ?_ | refine cg_skip ?_ | refine cg_block ?_)
        refine rb rfl rfl rfl rfl (a_alloc rfl) ?_; intro b10 k10 hb10 hN10 hle10 hk10
        repeat (first | refine qsp ?_)
        refine rw1 rfl rfl rfl rfl rfl rfl rfl hk10 rfl (.inl hN10) ?_ ?_; (simp [Tp.vs, Member.cs, Group.cs, Value.oneCell']); intro k11 ht11 hk11
        have hle11 := ht11 k9 hle10 hb10
        have ga11 := ga9.up hle11
        have ct11 := ct9.le hle11
        have hps : p < ((half (wInit l tps) p).set p (idxF (l.take i) f)).length := by rw [List.length_set]; omega
        have cg11 := cells_ints ga11.2.2 hps
        have hrep11 : tMember.rep k11 (Member.cs l[i] sa sc oa oc) l[i] := ⟨sa, sc, oa, oc, rfl, ⟨hsub.le hle11, hown.le hle11⟩, hid⟩
        rw [List.getElem_set_self] at cg11
        have cm11 := cells_at (vs := Member.cs l[i] sa sc oa oc) hk11 rfl
        rcases idxF_range (l.take i) f with hx | ⟨j, hx, _⟩
        · rw [hx] at cg11
          by_cases ho : tps[p] ∈ l[i].own
          · have hhas := has22_ct (hown.le hle11) tps[p]
            rw [decide_eq_true ho] at hhas
            have hwant := refWants_ct hrep11 tps[p]
            by_cases hw : tps[p].topic ∈ l[i].subs
            · rw [decide_eq_true hw] at hwant
              have hf1 : f l[i] = true := by rw [← hf]; simp [ho, hw]
              rw [if_pos ⟨by omega, hf1⟩] at hnx
              have cm3 := cm11.one (i := 3) rfl
              repeat (first | refine cg_seq ?_ | refine cg_region ?_ | refine rg_nil ?_ | refine eg_then ?_ | refine qsp ?_ | refine qsi ?_ | refine qsl ?_ | refine qsg ?_ | refine qsf ?_)
              refine rs rfl rfl (loc_call_is rfl rfl rfl rfl (hhas)) ?_
              clear cm3
              repeat (first | refine qsp ?_ | refine qsg ?_)
              refine rs rfl rfl (loc_call_is rfl rfl rfl rfl (hwant)) ?_
              repeat (first | refine cg_region ?_ | refine rg_nil ?_ | refine eg_then ?_ | refine qsp ?_ | refine qsi ?_ | refine cg_cond_true rfl ?_)
              refine rw0 rfl rfl rfl rfl rfl rfl rfl rfl ga11.2.2 ?_ (.inl hNg) ?_
              · simp; omega
              intro k12 ht12 hk12
              simp only [Nat.zero_add, Nat.mul_one] at hk12
              have ga12 := ga11.set ht12 hk12
              rw [List.set_set] at ga12
              repeat (first | refine cg_region ?_ | refine rg_nil ?_ | refine eg_then ?_ | refine qsp ?_ | refine qsa ?_ | refine eg_in_normal ?_)
              refine eg_again (i + 1) _ ⟨by rw [hnx]; exact ga12, ?_, hil, rfl⟩ (by omega) ⟨rfl, rfl, rfl, rfl, rfl, rfl, rfl, rfl, rfl, rfl, rfl, trivial⟩
              obtain ⟨c, et, fr, h1, h2⟩ := ct11
              exact ⟨c, et, fr, turn1_get ht12 (Ne.symm hne) h1, h2⟩
            · rw [decide_eq_false hw] at hwant
              have hf1 : f l[i] = false := by rw [← hf]; simp [hw]
              rw [if_neg (fun hh => by rw [hf1] at hh; cases hh.2)] at hnx
              have cm3 := cm11.one (i := 3) rfl
              repeat (first | refine cg_seq ?_ | refine cg_region ?_ | refine rg_nil ?_ | refine eg_then ?_ | refine qsp ?_ | refine qsi ?_ | refine qsl ?_ | refine qsg ?_ | refine qsf ?_)
              refine rs rfl rfl (loc_call_is rfl rfl rfl rfl (hhas)) ?_
              clear cm3
              repeat (first | refine qsp ?_ | refine qsg ?_)
              refine rs rfl rfl (loc_call_is rfl rfl rfl rfl (hwant)) ?_
              repeat (first | refine cg_region ?_ | refine rg_nil ?_ | refine eg_then ?_ | refine qsp ?_ | refine qsa ?_ | refine cg_cond_false rfl ?_ | refine cg_skip ?_ | refine eg_in_normal ?_)
              exact eg_again (i + 1) _ ⟨by rw [hnx]; exact ga11, ct11, hil, rfl⟩ (by omega) ⟨rfl, rfl, rfl, rfl, rfl, rfl, rfl, rfl, rfl, rfl, rfl, trivial⟩
          · have hhas := has22_ct (hown.le hle11) tps[p]
            rw [decide_eq_false ho] at hhas
            have hf1 : f l[i] = false := by rw [← hf]; simp [ho]
            rw [if_neg (fun hh => by rw [hf1] at hh; cases hh.2)] at hnx
            have cm3 := cm11.one (i := 3) rfl
            repeat (first | refine cg_seq ?_ | refine cg_region ?_ | refine rg_nil ?_ | refine eg_then ?_ | refine qsp ?_ | refine qsi ?_ | refine qsl ?_ | refine qsg ?_ | refine qsf ?_)
            refine rs rfl rfl (loc_call_is rfl rfl rfl rfl (hhas)) ?_
            repeat (first | refine cg_region ?_ | refine rg_nil ?_ | refine eg_then ?_ | refine qsp ?_ | refine qsa ?_ | refine qso ?_ | refine cg_cond_false rfl ?_ | refine cg_skip ?_ | refine eg_in_normal ?_)
            exact eg_again (i + 1) _ ⟨by rw [hnx]; exact ga11, ct11, hil, rfl⟩ (by omega) ⟨rfl, rfl, rfl, rfl, rfl, rfl, rfl, rfl, rfl, rfl, rfl, trivial⟩
        · rw [if_neg (fun hh => by rw [hx] at hh; omega)] at hnx
          rw [hx] at cg11
          repeat (first | refine cg_seq ?_ | refine cg_region ?_ | refine rg_nil ?_ | refine eg_then ?_ | refine qsp ?_ | refine qsa ?_ | refine qsi ?_ | refine qsl ?_ | refine qso ?_ | refine cg_cond_false rfl ?_ | refine cg_skip ?_ | refine eg_in_normal ?_)
          exact eg_again (i + 1) _ ⟨by rw [hnx]; exact ga11, ct11, hil, rfl⟩ (by omega) ⟨rfl, rfl, rfl, rfl, rfl, rfl, rfl, rfl, rfl, rfl, rfl, trivial⟩
      · have hil : i = l.length := by simp at h1; omega
        subst hil
        have hwg := wInit_get (l := l) hlt
        rw [List.take_length] at ga9
        rw [← hf] at ga9
        have hh := half_next hwg
        rw [List.set_set] at hh
        rw [hh] at ga9
        repeat (first | refine cg_region ?_ | refine rg_nil ?_ | refine eg_then ?_ | refine qsp ?_ | refine qsa ?_ | refine eg_in_normal ?_ | refine cg_exit ?_ | refine eg_then_exit ?_ | refine eg_in_exit ?_)
        exact eg_again (p + 1) _ ⟨ga9, hlt, rfl⟩ (by omega) ⟨rfl, rfl, rfl, rfl, rfl, rfl, trivial⟩
    · have hpl : p = tps.length := by simp at h; omega
      subst hpl
      have ga4 : GotAt k k3 bg (fillW l tps (wInit l tps) 0) := by
        have e1 : half (wInit l tps) tps.length = wInit l tps := by
          have := half_all (wInit l tps)
          rw [hwl] at this
          exact this
        rw [e1] at ga3
        exact ga3
      repeat (first | refine cg_seq ?_ | refine cg_region ?_ | refine rg_nil ?_ | refine eg_then ?_ | refine qsp ?_ | refine qsn ?_ | refine cg_block ?_ | refine cg_exit ?_ | refine eg_then_exit ?_ | refine eg_in_exit ?_)
      refine cg_loop (fun (p : Nat) e k' => GotAt k k' bg (fillW l tps (wInit l tps) p) ∧ WInv l tps (fillW l tps (wInit l tps) p) ∧ p ≤ tps.length ∧ e = [(0, .is (.slice la l.length lc)), (1, .is (.slice ta tps.length tc)), (6, .is (.slice (some ⟨bg, 0, none⟩) tps.length tps.length)), (70, .is (.slice ta tps.length tc)), (71, .is (.int .i64 (tps.length : Int))), (72, .is (.int .i64 (p : Int)))])
        (fun p => tps.length - p) 0 ⟨ga4, wInit_inv l tps, Nat.zero_le _, rfl⟩ ⟨rfl, rfl, rfl, rfl, rfl, rfl, trivial⟩ ?_
      rintro p e k5 ⟨ga5, hin5, hp5, rfl⟩
      generalize hwp : fillW l tps (wInit l tps) p = w at ga5 hin5
      have hwlen := hin5.len
      repeat (first | refine cg_seq ?_ | refine cg_region ?_ | refine rg_nil ?_ | refine eg_then ?_ | refine qsp ?_)
      refine cg_cond rfl (fun h => ?_) (fun h => ?_)
      · have hlt : p < tps.length := by simpa using h
        have hpw : p < w.length := by omega
        have htp : tps[p]? = some tps[p] := List.getElem?_eq_getElem hlt
        have hstep : fillW l tps (wInit l tps) (p + 1) = if w[p] < 0 then w.set p (leastW l tps[p] w) else w := by
          simp only [fillW, hwp, htp, List.getElem?_eq_getElem hpw]
        obtain ⟨bx, ox, cx, rfl, ⟨rfl, _⟩, hcx⟩ := (ht.le ga5.1).el p tps[p] htp
        repeat (first | refine cg_seq ?_ | refine cg_region ?_ | refine eg_then ?_ | refine qsp ?_ | refine qsi ?_ | refine qsg ?_ | refine cg_skip ?_ | refine cg_block ?_)
        refine rb rfl rfl rfl rfl (a_alloc rfl) ?_; intro b6 k6 hb6 hN6 hle6 hk6
        repeat (first | refine qsp ?_)
        refine rw1 rfl rfl rfl rfl rfl rfl rfl hk6 rfl (.inl hN6) ?_ ?_; (simp [Tp.vs, Member.cs, Group.cs, Value.oneCell']); intro k7 ht7 hk7
        have hle7 := ht7 k5 hle6 hb6
        have ga7 := ga5.up hle7
        have gw := cells_ints ga7.2.2 hpw
        have ct := cells_at (vs := tps[p].vs) hk7 rfl
        have hsg := sl_ints ga7.2.2 (hin5.i64 hb) (by unfold maxLen; omega)
        repeat (first | refine cg_seq ?_ | refine cg_region ?_ | refine rg_nil ?_ | refine eg_then ?_ | refine qsp ?_ | refine qsi ?_ | refine qsl ?_)
        refine cg_cond rfl (fun h0 => ?_) (fun h0 => ?_)
        · have hneg : w[p] < 0 := by simpa using h0
          have hfw := fewest_ct (hl.le ga7.1) hsg tps[p]
          rw [hwlen] at hfw
          repeat (first | refine cg_region ?_ | refine qsp ?_ | refine qsg ?_)
          refine rs rfl rfl (loc_call_is rfl rfl rfl rfl (hfw)) ?_
          have hlw := leastW_or l tps[p] (cnts l.length w)
          repeat (first | refine qsi ?_)
          refine rw0 rfl rfl rfl rfl rfl rfl rfl rfl ga7.2.2 ?_ (.inl hNg) ?_
          · simp; omega
          intro k8 ht8 hk8
          simp only [Nat.zero_add, Nat.mul_one] at hk8
          have ga8 := ga7.set ht8 hk8
          repeat (first | refine cg_region ?_ | refine rg_nil ?_ | refine eg_then ?_ | refine qsp ?_ | refine qsa ?_ | refine eg_in_normal ?_)
          refine eg_again (p + 1) _ ⟨?_, ?_, hlt, rfl⟩ (by omega) ⟨rfl, rfl, rfl, rfl, rfl, rfl, trivial⟩
          · rw [hstep, if_pos hneg]
            exact ga8
          · rw [hstep, if_pos hneg]
            exact hin5.set htp hlw
        · have hneg : ¬ w[p] < 0 := by simpa using h0
          repeat (first | refine cg_region ?_ | refine rg_nil ?_ | refine eg_then ?_ | refine qsp ?_ | refine qsa ?_ | refine cg_skip ?_ | refine eg_in_normal ?_)
          refine eg_again (p + 1) _ ⟨?_, ?_, hlt, rfl⟩ (by omega) ⟨rfl, rfl, rfl, rfl, rfl, rfl, trivial⟩
          · rw [hstep, if_neg hneg]
            exact ga7
          · rw [hstep, if_neg hneg]
            exact hin5
      · have hpl : p = tps.length := by simp at h; omega
        subst hpl
        repeat (first | refine cg_seq ?_ | refine cg_region ?_ | refine rg_nil ?_ | refine eg_then ?_ | refine qsp ?_ | refine cg_block ?_ | refine cg_exit ?_ | refine eg_then_exit ?_ | refine eg_in_exit ?_)
        refine cg_loop (fun (x : List Int × Bool) e k' => GotAt k k' bg x.1 ∧ WInv l tps x.1 ∧ Moved l tps (fillW l tps (wInit l tps) tps.length) x.1 ∧ (x.2 = false → stepM l tps x.1 = none) ∧ e = [(0, .is (.slice la l.length lc)), (1, .is (.slice ta tps.length tc)), (6, .is (.slice (some ⟨bg, 0, none⟩) tps.length tps.length)), (13, .is (.bool x.2))])
          (fun x => 2 * sqW l.length x.1 + if x.2 then 1 else 0) (w, true) ⟨ga5, hin5, hwp ▸ .refl _, (fun h => by cases h), rfl⟩ ⟨rfl, rfl, rfl, rfl, trivial⟩ ?_
        clear hwp hin5 ga5 hwlen
        rintro ⟨w, mv⟩ e k6 ⟨ga6, hin6, hmv, hst, rfl⟩
        have hwlen : w.length = tps.length := hin6.len
        repeat (first | refine cg_seq ?_ | refine cg_region ?_ | refine rg_nil ?_ | refine eg_then ?_ | refine qsp ?_)
        refine cg_cond rfl (fun h => ?_) (fun h => ?_)
        · subst h
          repeat (first | refine cg_seq ?_ | refine cg_region ?_ | refine rg_nil ?_ | refine eg_then ?_ | refine qsp ?_ | refine qsn ?_ | refine cg_skip ?_ | refine cg_block ?_)
          refine cg_loop (fun (p : Nat) e k' => GotAt k k' bg w ∧ (∀ q, q < p → hotW l tps w q = false) ∧ p ≤ tps.length ∧ e = [(0, .is (.slice la l.length lc)), (1, .is (.slice ta tps.length tc)), (6, .is (.slice (some ⟨bg, 0, none⟩) tps.length tps.length)), (13, .is (.bool false)), (91, .is (.slice ta tps.length tc)), (92, .is (.int .i64 (tps.length : Int))), (93, .is (.int .i64 (p : Int)))])
            (fun p => tps.length - p) 0 ⟨ga6, fun q hq => by omega, Nat.zero_le _, rfl⟩ ⟨rfl, rfl, rfl, rfl, rfl, rfl, rfl, trivial⟩ ?_
          rintro p e k7 ⟨ga7, hcold, hp, rfl⟩
          repeat (first | refine cg_seq ?_ | refine cg_region ?_ | refine rg_nil ?_ | refine eg_then ?_ | refine qsp ?_)
          refine cg_cond rfl (fun h => ?_) (fun h => ?_)
          · have hlt : p < tps.length := by simpa using h
            have hpw : p < w.length := by omega
            have htp : tps[p]? = some tps[p] := List.getElem?_eq_getElem hlt
            have hwp : w[p]? = some w[p] := List.getElem?_eq_getElem hpw
            obtain ⟨bx, ox, cx, rfl, ⟨rfl, _⟩, hcx⟩ := (ht.le ga7.1).el p tps[p] htp
            repeat (first | refine cg_seq ?_ | refine cg_region ?_ | refine eg_then ?_ | refine qsp ?_ | refine qsi ?_ | refine qsg ?_ | refine cg_skip ?_ | refine cg_block ?_)
            refine rb rfl rfl rfl rfl (a_alloc rfl) ?_; intro b8 k8 hb8 hN8 hle8 hk8
            repeat (first | refine qsp ?_)
            refine rw1 rfl rfl rfl rfl rfl rfl rfl hk8 rfl (.inl hN8) ?_ ?_; (simp [Tp.vs, Member.cs, Group.cs, Value.oneCell']); intro k9 ht9 hk9
            have ga9 := ga7.up (ht9 k7 hle8 hb8)
            have gw := cells_ints ga9.2.2 hpw
            have ct := cells_at (vs := tps[p].vs) hk9 rfl
            have hsg := sl_ints ga9.2.2 (hin6.i64 hb) (by unfold maxLen; omega)
            have hfw := fewest_ct (hl.le ga9.1) hsg tps[p]
            rw [hwlen] at hfw
            rcases hin6.at' p _ _ hwp htp with hx | hx
            · rw [hx] at gw
              have hhot : hotW l tps w p = false := by simp only [hotW, hwp, htp, hx]; rfl
              repeat (first | refine cg_seq ?_ | refine cg_region ?_ | refine rg_nil ?_ | refine eg_then ?_ | refine qsp ?_ | refine qsg ?_)
              refine rs rfl rfl (loc_call_is rfl rfl rfl rfl (hfw)) ?_
              repeat (first | refine cg_seq ?_ | refine rg_nil ?_ | refine eg_then ?_ | refine qsp ?_)
              refine cg_any (by kernel_rfl) rfl ?_
              repeat (first | refine qwp ?_ | refine qwi ?_ | refine qwl ?_ | refine qwo ?_ | (refine wn rfl ?_; refine eg_then ?_))
              refine cg_cond_false rfl ?_
              repeat (first | refine cg_region ?_ | refine rg_nil ?_ | refine eg_then ?_ | refine qsp ?_ | refine qsa ?_ | refine cg_skip ?_ | refine eg_in_normal ?_)
              refine eg_again (p + 1) _ ⟨ga9, fun q hq => ?_, hlt, rfl⟩ (by omega) ⟨rfl, rfl, rfl, rfl, rfl, rfl, rfl, trivial⟩
              by_cases hqp : q = p
              · exact hqp ▸ hhot
              · exact hcold q (by omega)
            · have hto : Wants l tps[p] (leastW l tps[p] w) := leastW_of hx _
              have hto' := hto
              obtain ⟨i, hi, hil, _⟩ := hx
              obtain ⟨j, hj, hjl, _⟩ := hto
              rw [hi] at gw
              rw [hj] at hfw
              have bi := List.count_le_length (l := w) (a := (i : Int))
              have bj := List.count_le_length (l := w) (a := (j : Int))
              have hci := count_ct hsg (i : Int)
              have hcj := count_ct hsg (j : Int)
              rw [hwlen] at hci hcj
              have hhot : hotW l tps w p = decide ((w.count (j : Int) : Int) + 2 ≤ (w.count (i : Int) : Int)) := by
                simp only [hotW, hwp, htp, hi, hj]
                rw [Bool.eq_iff_iff]
                simp
                omega
              repeat (first | refine cg_seq ?_ | refine cg_region ?_ | refine rg_nil ?_ | refine eg_then ?_ | refine qsp ?_ | refine qsg ?_)
              refine rs rfl rfl (loc_call_is rfl rfl rfl rfl (hfw)) ?_
              repeat (first | refine cg_seq ?_ | refine rg_nil ?_ | refine eg_then ?_ | refine qsp ?_)
              refine cg_any (by kernel_rfl) rfl ?_
              repeat (first | refine qwp ?_ | refine qwi ?_ | refine qwl ?_)
              refine ws rfl (loc_call_is rfl rfl rfl rfl (hcj)) ?_
              repeat (first | refine qwp ?_ | refine qwa ?_ | refine qwi ?_ | refine qwl ?_)
              refine ws rfl (loc_call_is rfl rfl rfl rfl (hci)) ?_
              repeat (first | refine qwp ?_ | (refine wn rfl ?_; refine eg_then ?_))
              refine cg_cond rfl (fun h2 => ?_) (fun h2 => ?_)
              · have hge : (w.count (j : Int) : Int) + 2 ≤ (w.count (i : Int) : Int) := by simpa using h2
                repeat (first | refine cg_seq ?_ | refine cg_region ?_ | refine qsp ?_ | refine qsi ?_)
                refine rw0 rfl rfl rfl rfl rfl rfl rfl rfl ga9.2.2 ?_ (.inl hNg) ?_
                · simp; omega
                intro k10 ht10 hk10
                simp only [Nat.zero_add, Nat.mul_one] at hk10
                have ga10 := ga9.set ht10 hk10
                repeat (first | refine cg_seq ?_ | refine cg_region ?_ | refine rg_nil ?_ | refine eg_then ?_ | refine qsp ?_ | refine eg_in_normal ?_ | refine cg_exit ?_ | refine eg_then_exit ?_ | refine eg_in_exit ?_ | refine eg_in_other rfl ?_)
                have hlow := sqW_lower hpw hi hil hjl (by omega)
                refine eg_again (w.set p (j : Int), true) _ ⟨ga10, hin6.set htp (.inr (hj ▸ hto')), .step hmv ?_, (fun h => by cases h), rfl⟩ (by simp only [if_true]; omega) ⟨rfl, rfl, rfl, rfl, trivial⟩
                rw [stepM_some hlt hcold (by rw [hhot]; exact h2), hj]
              · have hhot' : hotW l tps w p = false := by rw [hhot]; exact h2
                repeat (first | refine cg_region ?_ | refine rg_nil ?_ | refine eg_then ?_ | refine qsp ?_ | refine qsa ?_ | refine cg_skip ?_ | refine eg_in_normal ?_)
                refine eg_again (p + 1) _ ⟨ga9, fun q hq => ?_, hlt, rfl⟩ (by omega) ⟨rfl, rfl, rfl, rfl, rfl, rfl, rfl, trivial⟩
                by_cases hqp : q = p
                · exact hqp ▸ hhot'
                · exact hcold q (by omega)
          · have hpl : p = tps.length := by simp at h; omega
            subst hpl
            repeat (first | refine eg_in_normal ?_ | refine cg_exit ?_ | refine eg_then_exit ?_ | refine eg_in_exit ?_)
            exact eg_again (w, false) _ ⟨ga7, hin6, hmv, (fun _ => stepM_none hcold), rfl⟩ (by simp) ⟨rfl, rfl, rfl, rfl, trivial⟩
        · subst h
          have htg : IsTgt l tps w := ⟨hmv, hin6, hst rfl⟩
          repeat (first | refine cg_seq ?_ | refine cg_region ?_ | refine eg_then ?_ | refine qsp ?_ | refine qsn ?_ | refine cg_exit ?_ | refine eg_then_exit ?_ | refine eg_in_exit ?_)
          refine rb rfl rfl rfl rfl (a_makeSlice (m := l.length) (c := l.length) rfl rfl rfl (Nat.le_refl _) (by omega) (by omega)) ?_; intro bo k7 hbo hNo hle7 hk7
          have hk7' : k7 bo = some (.cells (List.replicate l.length (Value.slice none 0 0)).toArray 25 (0, 0)) := by
            rw [hk7, made_nils]
          have rows0 := rows_nil Tp.vs (et := 53) (sz := 3) (h := k6) l.length hle7 hbo hNo hk7'
          rw [← outM_zero l.length tps w] at rows0
          repeat (first | refine cg_seq ?_ | refine cg_region ?_ | refine rg_nil ?_ | refine eg_then ?_ | refine qsp ?_ | refine qsn ?_ | refine cg_block ?_)
          refine cg_loop (fun (p : Nat) e k' => ∃ vs, RowsOf Tp.vs F.w0.heap.size 53 3 25 bo k6 k' vs (outM l.length (tps.take p) (w.take p)) ∧ p ≤ tps.length ∧ e = [(6, .is (.slice (some ⟨bg, 0, none⟩) tps.length tps.length)), (17, .is (.slice (some ⟨bo, 0, none⟩) l.length l.length)), (128, .is (.slice ta tps.length tc)), (129, .is (.int .i64 (tps.length : Int))), (130, .is (.int .i64 (p : Int)))])
            (fun p => tps.length - p) 0 ⟨_, rows0, Nat.zero_le _, rfl⟩ ⟨rfl, rfl, rfl, rfl, rfl, trivial⟩ ?_
          rintro p e k8 ⟨vs, rows8, hp, rfl⟩
          repeat (first | refine cg_seq ?_ | refine cg_region ?_ | refine rg_nil ?_ | refine eg_then ?_ | refine qsp ?_)
          refine cg_cond rfl (fun h => ?_) (fun h => ?_)
          · have hlt : p < tps.length := by simpa using h
            have hpw : p < w.length := by omega
            obtain ⟨bx, ox, cx, rfl, ⟨rfl, _⟩, hcx⟩ := (ht.le (ga6.1.trans rows8.le)).el p tps[p] (List.getElem?_eq_getElem hlt)
            repeat (first | refine cg_seq ?_ | refine cg_region ?_ | refine eg_then ?_ | refine qsp ?_ | refine qsi ?_ | refine qsg ?_ | refine cg_skip ?_ | refine cg_block ?_)
            refine rb rfl rfl rfl rfl (a_alloc rfl) ?_; intro b9 k9 hb9 hN9 hle9 hk9
            repeat (first | refine qsp ?_)
            refine rw1 rfl rfl rfl rfl rfl rfl rfl hk9 rfl (.inl hN9) ?_ ?_; (simp [Tp.vs, Member.cs, Group.cs, Value.oneCell']); intro k10 ht10 hk10
            have hle10 := ht10 k8 hle9 hb9
            have rows := rows8.up hle10
            have ga10 := ga6.up rows.le
            have gw := cells_ints ga10.2.2 hpw
            repeat (first | refine cg_seq ?_ | refine cg_region ?_ | refine rg_nil ?_ | refine eg_then ?_ | refine qsp ?_ | refine qsi ?_ | refine qsl ?_)
            refine cg_cond rfl (fun h2 => ?_) (fun h2 => ?_)
            · obtain ⟨i, hi, hil⟩ : ∃ i : Nat, w[p] = (i : Int) ∧ i < l.length := by
                have h3 : 0 ≤ w[p] := by simpa using h2
                rcases hin6.at' p _ _ (List.getElem?_eq_getElem hpw) (List.getElem?_eq_getElem hlt) with hx | ⟨i, hi, hil, _⟩
                · omega
                · exact ⟨i, hi, hil⟩
              have hvl : i < vs.length := by rw [rows.len, outM_len]; exact hil
              have hv : vs[i]? = some vs[i] := List.getElem?_eq_getElem hvl
              have hr : (outM l.length (tps.take p) (w.take p))[i]? = some _ := List.getElem?_eq_getElem (by rw [outM_len]; exact hil)
              generalize (outM l.length (tps.take p) (w.take p))[i]'(by rw [outM_len]; exact hil) = r at hr
              generalize hvv : vs[i] = v at hv
              obtain ⟨hrow8, _, _⟩ := rows8.row i v r hv hr
              obtain ⟨hrow, hap, hvb⟩ := rows.row i v r hv hr
              have hd := le_delV rows.le hap
              have hvb9 : v.ownBlock ≠ some b9 := fun hg => by
                obtain ⟨_, ob, ho⟩ := hrow8.block hg
                rw [hb9] at ho
                cases ho
              have ct : Cells (delV k10 v) b9 0 tps[p].vs := (cells_at (vs := tps[p].vs) hk10 rfl).delV hvb9
              have cbo : Cells (delV k10 v) bo (0 + i * 1) [v] := by
                refine Cells.delV ⟨vs.toArray, 25, (0, 0), rows.at', fun j u hu => ?_⟩ hvb
                have hj : j = 0 := by
                  have := (List.getElem?_eq_some_iff.1 hu).1
                  simp at this
                  exact this
                subst hj
                simp at hu
                subst hu
                simp [hv]
              have hrl : r.length ≤ 1000000 := by
                have := outM_bd hr
                rw [List.length_take] at this
                omega
              have gw2 := cells_ints (ga6.up hd).2.2 hpw
              rw [hi] at gw2
              refine cg_app v hrow rfl (by kernel_rfl) (by kernel_rfl) rfl rfl (m' := r.length + 1) (xs' := r.flatMap Tp.vs ++ tps[p].vs) ?_
              repeat (first | refine qvp ?_ | refine qvi ?_ | refine qvl ?_ | refine qvg ?_)
              refine we_v rfl (loc_alloc rfl (a_slice rfl rfl rfl rfl (by kernel_rfl) rfl)) ?_
              refine we_app rfl rfl rfl rfl rfl (fun k1 u _ ⟨b, hu, hkb, _⟩ => ⟨b, 0, 1, hu, cells_at hkb rfl⟩) rfl (by simp [Tp.vs, Value.oneCell']) rfl rfl (by unfold maxLen; omega) (by omega) ?_
              repeat (first | refine qvi ?_)
              refine we_nil ⟨154, _, [(6, .is (.slice (some ⟨bg, 0, none⟩) tps.length tps.length)), (17, .is (.slice (some ⟨bo, 0, none⟩) l.length l.length)), (128, .is (.slice (some ⟨bx, ox, none⟩) tps.length tc)), (129, .is (.int .i64 (tps.length : Int))), (130, .is (.int .i64 (p : Int))), (155, .is (.pointer (some ⟨bo, 0 + i * 1, none⟩)))], rfl, rfl, rfl, ⟨rfl, rfl, rfl, rfl, rfl, rfl, trivial⟩, fun v' k11 hrow11 ht11 => ?_⟩
              obtain ⟨hk11, hnext⟩ := rows.turn hv hr tps[p] hrow11 ht11
              refine rw0 rfl rfl rfl rfl rfl rfl ?_ rfl hk11 ?_ (.inl hNo) ?_
              · obtain ⟨_, h5⟩ := hrow11
                rcases h5 with ⟨rfl, _⟩ | ⟨g, cap, cur, rfl, _⟩ <;> rfl
              · simp; omega
              intro k12 ht12 hk12
              simp only [Nat.zero_add, Nat.mul_one] at hk12
              have rows12 := hnext k12 ht12 hk12
              rw [← outM_at hlt hpw hi hil hr] at rows12
              repeat (first | refine cg_region ?_ | refine rg_nil ?_ | refine eg_then ?_ | refine qsp ?_ | refine qsa ?_ | refine eg_in_normal ?_)
              exact eg_again (p + 1) _ ⟨_, rows12, hlt, rfl⟩ (by omega) ⟨rfl, rfl, rfl, rfl, rfl, trivial⟩
            · repeat (first | refine cg_region ?_ | refine rg_nil ?_ | refine eg_then ?_ | refine qsp ?_ | refine qsa ?_ | refine cg_skip ?_ | refine eg_in_normal ?_)
              refine eg_again (p + 1) _ ⟨vs, ?_, hlt, rfl⟩ (by omega) ⟨rfl, rfl, rfl, rfl, rfl, trivial⟩
              rw [outM_no hlt hpw (by simpa using h2)]
              exact rows
          · have hpl : p = tps.length := by simp at h; omega
            subst hpl
            have hrows : RowsOf Tp.vs F.w0.heap.size 53 3 25 bo k6 k8 vs (outM l.length tps w) := by
              have := rows8
              rw [show w.take tps.length = w.take w.length by rw [hwlen], outM_all hwlen] at this
              exact this
            have hsl := hrows.sl (T := tTp) (by rw [outM_len]; unfold maxLen; omega) (fun r hr x hx => ⟨rfl, sl_tpok ht x (outM_sub hr hx)⟩)
            repeat (first | refine cg_seq ?_ | refine cg_region ?_ | refine rg_nil ?_ | refine eg_then ?_ | refine qsp ?_ | refine cg_ret ?_ | refine cg_exit ?_ | refine eg_then_exit ?_ | refine eg_in_exit ?_)
            refine eg_return2 rfl rfl rfl ⟨some ⟨bo, 0, none⟩, l.length, outM l.length tps w, 0, (by rw [outM_len]), ?_, (fun h => by rw [hok] at h; cases h), fun _ => ⟨rfl, w, htg, rfl⟩⟩
            rw [outM_len] at hsl
            exact hsl
  · refine cg_cond_true (by simp [opv, get, Nat.beq, hN]) ?_
    repeat (first | refine cg_seq ?_ | refine cg_region ?_ | refine rg_nil ?_ | refine eg_then ?_ | refine qsp ?_ | refine cg_ret ?_ | refine eg_then_ret ?_)
    exact eg_return2 rfl rfl rfl ⟨none, 0, [], 1, rfl, ⟨by simp, by simp [maxLen], fun _ => rfl, by simp, by simp⟩, fun _ => ⟨rfl, rfl⟩, fun h => by simp only [okT, hN, decide_false, Bool.and_false] at h; cases h⟩
end Go.Wm

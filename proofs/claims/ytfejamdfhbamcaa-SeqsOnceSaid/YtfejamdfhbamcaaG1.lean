/-
  Producers, the program's: whether they may be. Conditions: that what is handed in reads as data.
-/
import Derived.Test.YtfejamdfhbamcaaM5
import Derived.Test.YtfejamdfhbamcaaE3
set_option linter.all false
namespace Go.Wm
open Go.RowKit Go.Proofs
attribute [local irreducible] RG CG EG WA Loc Det Alc CT Exit.then Exit.inBlock Code.wp bodyPost
theorem seqsWithin_ct {k : PH} (n to' : Int) : CT Try.prog 71 #[.int .i64 n, .int .i64 to'] k (fun _ v => v = .bool (inI n 0 to')) := by
  refine ct_of_body (l := [_, _]) Try.func71 rfl Try.ntmps71 (by simp) (fun _ _ _ _ h => h) fun F hF0 hFm => ?_
  repeat (first | refine cg_seq ?_ | refine cg_region ?_ | refine rg_nil ?_ | refine eg_then ?_ | refine qsp ?_)
  cases q : decide ((0 : Int) ≤ n)
  · repeat (first | refine rg_nil ?_ | refine eg_then ?_ | refine qsp ?_ | refine qso ?_ | refine cg_ret ?_)
    refine eg_return rfl rfl ?_
    simp [inI, q]
  · repeat (first | refine rg_nil ?_ | refine eg_then ?_ | refine qsp ?_ | refine cg_ret ?_)
    refine eg_return rfl rfl ?_
    simp [inI, q]
theorem dids_bad {l : List Did} {i : Nat} (h : i < l.length) (hb : ¬ (didOk l[i] = true ∧ (0 < i → l[i - 1].last + 1 = l[i].seq))) : ¬ DidsP l := fun hd => hb (hd i h)
theorem prods_bad {l : List ProdT} {i : Nat} (h : i < l.length) (hb : ¬ (prodOk l[i] = true ∧ (0 < i → l[i - 1].pid < l[i].pid))) : ¬ ProdsP l := fun hd => hb (hd i h)
theorem chk_bad {l : List ProdT} (hl : ¬ 1024 < l.length) (h : ¬ ProdsP l) : chkP l = 1 := by unfold chkP; rw [if_neg hl, if_neg h]
set_option maxHeartbeats 4000000 in
theorem seqsCheck_ct {k : PH} {a : Option Addr} {c : Nat} {l : List ProdT} (hl : Sl tProdT k a c l) : CT Try.prog 22 #[.slice a l.length c] k (fun _ v => v = .int .i64 (chkP l)) := by
  refine ct_of_body (l := [_]) Try.func22 rfl Try.ntmps22 (by simp) (fun _ _ _ _ h => h) fun F hF0 hFm => ?_
  have b1 := hl.cap; have b2 := hl.max; unfold maxLen at b2
  repeat (first | refine cg_seq ?_ | refine cg_region ?_ | refine rg_nil ?_ | refine eg_then ?_ | refine qsp ?_ | refine qsn ?_)
  cases q0 : decide ((l.length : Int) > 1024)
  case true =>
    repeat (first | refine cg_seq ?_ | refine cg_region ?_ | refine rg_nil ?_ | refine eg_then ?_ | refine qsp ?_ | refine cg_cond_true rfl ?_ | refine cg_ret ?_ | refine eg_then_ret ?_)
    refine eg_return rfl rfl ?_
    unfold chkP; rw [if_pos (by have := of_decide_eq_true q0; omega)]
  have hl1 : ¬ 1024 < l.length := by have := of_decide_eq_false q0; omega
  repeat (first | refine cg_seq ?_ | refine cg_region ?_ | refine rg_nil ?_ | refine eg_then ?_ | refine qsp ?_ | refine qsn ?_ | refine cg_cond_false rfl ?_ | refine cg_skip ?_ | refine cg_block ?_)
  refine cg_loop (fun (i : Nat) e k' => ∃ last : Int, Le k k' ∧ i ≤ l.length ∧ I64 last ∧ (i = 0 → last = -1) ∧ (∀ h : 0 < i, ∀ h2 : i - 1 < l.length, last = l[i - 1].pid) ∧ (∀ j, (h : j < l.length) → j < i → prodOk l[j] = true ∧ (0 < j → l[j - 1].pid < l[j].pid)) ∧ e = [(3, .is (.int .i64 last)), (11, .is (.slice a l.length c)), (12, .is (.int .i64 (l.length : Int))), (13, .is (.int .i64 (i : Int)))])
    (fun i => l.length - i) 0 ⟨-1, Le.refl _, Nat.zero_le _, by unfold I64; omega, fun _ => rfl, fun h => by omega, fun j _ hj => by omega, rfl⟩ ⟨rfl, rfl, rfl, rfl, trivial⟩ ?_
  rintro i e k1 ⟨last, hle, hi, hI, hlast0, hlast, hok, rfl⟩
  repeat (first | refine cg_seq ?_ | refine cg_region ?_ | refine rg_nil ?_ | refine eg_then ?_ | refine qsp ?_)
  refine cg_cond rfl (fun hc => ?_) (fun hc => ?_)
  · have hlt : i < l.length := by simpa using hc
    obtain ⟨bx, ox, cx, rfl, ⟨a0, c0, rfl, hsd, hpok⟩, hcx⟩ := (hl.le hle).el i l[i] (List.getElem?_eq_getElem hlt)
    obtain ⟨p, hp⟩ : ∃ p, l[i] = p := ⟨_, rfl⟩
    have hlen := prods_bad hlt
    rw [hp] at hcx hsd hpok hlen
    have hord : i ≠ 0 → ∃ h2 : i - 1 < l.length, last = l[i - 1].pid := fun h => ⟨by omega, hlast (by omega) (by omega)⟩
    -- what makes a producer bad
    have badh : (¬ prodOk p = true) ∨ p.pid ≤ last → chkP l = 1 := fun hb => chk_bad hl1 (hlen fun ⟨g1, g2⟩ => by
      rcases hb with hb | hb
      · exact hb g1
      · by_cases h0 : i = 0
        · have := hlast0 h0
          have := (prodOk_iff.1 g1).1.1
          omega
        · obtain ⟨h2, e2⟩ := hord h0
          have := g2 (by omega)
          omega)
    repeat (first | refine cg_seq ?_ | refine cg_region ?_ | refine eg_then ?_ | refine qsi ?_ | refine qsg ?_ | refine cg_skip ?_ | refine cg_block ?_)
    refine rb rfl rfl rfl rfl (a_alloc rfl) ?_; intro b5 k2 hb5 hN5 hle2 hk2
    refine rw1 (vs := p.cs a0 c0) rfl rfl rfl rfl rfl rfl rfl hk2 rfl (.inl hN5) ?_ ?_
    · simp [ProdT.cs, Value.oneCell']
    intro k3 ht3 hk3
    have hle3 : Le k1 k3 := ht3 k1 hle2 hb5
    have hsd := hsd.le hle3
    obtain ⟨p0, p1, p2⟩ := ProdT.parts (cells_at (vs := p.cs a0 c0) hk3 rfl)
    have d1 := hsd.cap; have d2 := hsd.max; unfold maxLen at d2
    repeat (first | refine cg_seq ?_ | refine cg_region ?_ | refine rg_nil ?_ | refine eg_then ?_ | refine qsp ?_ | refine qsl ?_ | refine qsf ?_)
    cases q1 : decide (p.pid ≤ last)
    case true =>
      repeat (first | refine cg_seq ?_ | refine cg_region ?_ | refine rg_nil ?_ | refine eg_then ?_ | refine qsp ?_ | refine qso ?_ | refine cg_cond_true rfl ?_ | refine cg_ret ?_ | refine eg_then_ret ?_ | refine eg_in_ret ?_)
      exact eg_return rfl rfl (by rw [badh (.inr (of_decide_eq_true q1))])
    repeat (first | refine qsp ?_ | refine qsl ?_ | refine qsf ?_)
    cases q2 : decide (p.pid > 1099511627776)
    case true =>
      repeat (first | refine cg_seq ?_ | refine cg_region ?_ | refine rg_nil ?_ | refine eg_then ?_ | refine qsp ?_ | refine qso ?_ | refine cg_cond_true rfl ?_ | refine cg_ret ?_ | refine eg_then_ret ?_ | refine eg_in_ret ?_)
      exact eg_return rfl rfl (by rw [badh (.inl fun hc' => by have := (prodOk_iff.1 hc').1.2; have := of_decide_eq_true q2; omega)])
    repeat (first | refine qsl ?_ | refine qsf ?_)
    refine rs rfl rfl (loc_call_is rfl rfl rfl rfl (seqsWithin_ct p.gen 1048576)) ?_
    cases q3 : inI p.gen 0 1048576
    case false =>
      repeat (first | refine cg_seq ?_ | refine cg_region ?_ | refine rg_nil ?_ | refine eg_then ?_ | refine qsp ?_ | refine qso ?_ | refine cg_cond_true rfl ?_ | refine cg_ret ?_ | refine eg_then_ret ?_ | refine eg_in_ret ?_)
      exact eg_return rfl rfl (by rw [badh (.inl fun hc' => by unfold prodOk at hc'; rw [q3] at hc'; simp at hc')])
    repeat (first | refine rg_nil ?_ | refine eg_then ?_ | refine qsp ?_ | refine qsn ?_ | refine qsl ?_ | refine qsf ?_)
    cases q4 : decide ((p.did.length : Int) > 5)
    case true =>
      repeat (first | refine cg_seq ?_ | refine cg_region ?_ | refine rg_nil ?_ | refine eg_then ?_ | refine qsp ?_ | refine cg_cond_true rfl ?_ | refine cg_ret ?_ | refine eg_then_ret ?_ | refine eg_in_ret ?_)
      exact eg_return rfl rfl (by rw [badh (.inl fun hc' => by have := (prodOk_iff.1 hc').2.2.1; have := of_decide_eq_true q4; omega)])
    have q1 := of_decide_eq_false q1
    have q2 := of_decide_eq_false q2
    have q4 := of_decide_eq_false q4
    repeat (first | refine cg_seq ?_ | refine cg_region ?_ | refine rg_nil ?_ | refine eg_then ?_ | refine qsp ?_ | refine qsn ?_ | refine qsl ?_ | refine qsf ?_ | refine cg_cond_false rfl ?_ | refine cg_skip ?_ | refine cg_block ?_)
    refine cg_loop (fun (j : Nat) e k' => Le k3 k' ∧ j ≤ p.did.length ∧ (∀ n, (h : n < p.did.length) → n < j → didOk p.did[n] = true ∧ (0 < n → p.did[n - 1].last + 1 = p.did[n].seq)) ∧ e = [(3, .is (.int .i64 p.pid)), (5, .is (.pointer (some ⟨b5, 0, none⟩))), (11, .is (.slice (some ⟨bx, ox, none⟩) l.length c)), (12, .is (.int .i64 (l.length : Int))), (13, .is (.int .i64 (i : Int))), (41, .is (.slice a0 p.did.length c0)), (42, .is (.int .i64 (p.did.length : Int))), (43, .is (.int .i64 (j : Int)))])
      (fun j => p.did.length - j) 0 ⟨Le.refl _, Nat.zero_le _, fun n _ hn => by omega, rfl⟩ ⟨rfl, rfl, rfl, rfl, rfl, rfl, rfl, rfl, trivial⟩ ?_
    rintro j e k4 ⟨hle4, hj, hdok, rfl⟩
    repeat (first | refine cg_seq ?_ | refine cg_region ?_ | refine rg_nil ?_ | refine eg_then ?_ | refine qsp ?_)
    refine cg_cond rfl (fun hc2 => ?_) (fun hc2 => ?_)
    · have hjlt : j < p.did.length := by simpa using hc2
      have hsd4 := hsd.le hle4
      obtain ⟨by', oy, cy, rfl, ⟨rfl, hdI⟩, hcy⟩ := hsd4.el j p.did[j] (List.getElem?_eq_getElem hjlt)
      obtain ⟨d, hd⟩ : ∃ d, p.did[j] = d := ⟨_, rfl⟩
      have hdbad := dids_bad hjlt
      rw [hd] at hcy hdI hdbad
      have bad : ¬ (didOk d = true ∧ (0 < j → p.did[j - 1].last + 1 = d.seq)) → chkP l = 1 := fun hb => badh (.inl fun hc' => hdbad hb (prodOk_iff.1 hc').2.2.2)
      repeat (first | refine cg_seq ?_ | refine cg_region ?_ | refine eg_then ?_ | refine qsp ?_ | refine qsi ?_ | refine qsg ?_ | refine cg_skip ?_ | refine cg_block ?_)
      refine rb rfl rfl rfl rfl (a_alloc rfl) ?_; intro b7 k5 hb7 hN7 hle5 hk5
      repeat (first | refine qsp ?_)
      refine rw1 (vs := d.vs) rfl rfl rfl rfl rfl rfl rfl hk5 rfl (.inl hN7) ?_ ?_
      · simp [Did.vs, Value.oneCell']
      intro k6 ht6 hk6
      have hle6 : Le k4 k6 := ht6 k4 hle5 hb7
      obtain ⟨f0, f1, f2⟩ := Did.parts (cells_at (vs := d.vs) hk6 rfl)
      have p2 := p2.le (hle4.trans hle6)
      have hsd6 := hsd4.le hle6
      repeat (first | refine cg_seq ?_ | refine rg_nil ?_ | refine eg_then ?_)
      refine cg_any (by kernel_rfl) rfl ?_
      repeat (first | refine qwl ?_ | refine qwf ?_)
      refine ws rfl (loc_call_is rfl rfl rfl rfl (seqsWithin_ct d.seq d.last)) ?_
      cases r1 : inI d.seq 0 d.last
      case false =>
        repeat (first | refine qwp ?_ | refine qwo ?_ | (refine wn rfl ?_; refine eg_then ?_))
        repeat (first | refine cg_seq ?_ | refine cg_region ?_ | refine rg_nil ?_ | refine eg_then ?_ | refine qsp ?_ | refine cg_cond_true rfl ?_ | refine cg_ret ?_ | refine eg_then_ret ?_ | refine eg_in_ret ?_)
        exact eg_return rfl rfl (by rw [bad fun hc' => by unfold didOk at hc'; rw [r1] at hc'; simp at hc'])
      repeat (first | refine qwp ?_ | refine qwl ?_ | refine qwf ?_)
      refine ws rfl (loc_call_is rfl rfl rfl rfl (seqsWithin_ct d.last 1048576)) ?_
      cases r2 : inI d.last 0 1048576
      case false =>
        repeat (first | refine qwp ?_ | refine qwo ?_ | (refine wn rfl ?_; refine eg_then ?_))
        repeat (first | refine cg_seq ?_ | refine cg_region ?_ | refine rg_nil ?_ | refine eg_then ?_ | refine qsp ?_ | refine cg_cond_true rfl ?_ | refine cg_ret ?_ | refine eg_then_ret ?_ | refine eg_in_ret ?_)
        exact eg_return rfl rfl (by rw [bad fun hc' => by unfold didOk at hc'; rw [r2] at hc'; simp at hc'])
      repeat (first | refine qwp ?_ | refine qwl ?_ | refine qwf ?_)
      refine ws rfl (loc_call_is rfl rfl rfl rfl (seqsWithin_ct d.base 1099511627776)) ?_
      cases r3 : inI d.base 0 1099511627776
      case false =>
        repeat (first | refine qwp ?_ | refine qwo ?_ | (refine wn rfl ?_; refine eg_then ?_))
        repeat (first | refine cg_seq ?_ | refine cg_region ?_ | refine rg_nil ?_ | refine eg_then ?_ | refine qsp ?_ | refine cg_cond_true rfl ?_ | refine cg_ret ?_ | refine eg_then_ret ?_ | refine eg_in_ret ?_)
        exact eg_return rfl rfl (by rw [bad fun hc' => by unfold didOk at hc'; rw [r3] at hc'; simp at hc'])
      have hdid : didOk d = true := by unfold didOk; rw [r1, r2, r3]; rfl
      repeat (first | refine qwp ?_)
      by_cases h0 : 0 < j
      · rw [show decide ((j : Int) > 0) = true by simp; omega]
        have hj1 : j - 1 < p.did.length := by omega
        obtain ⟨bz, oz, cz, ez, ⟨rfl, hzI⟩, hcz⟩ := hsd6.el (j - 1) p.did[j - 1] (List.getElem?_eq_getElem hj1)
        cases ez
        have hprev := (hdok (j - 1) hj1 (by omega)).1
        obtain ⟨d', hd'⟩ : ∃ d', p.did[j - 1] = d' := ⟨_, rfl⟩
        rw [hd'] at hcz hprev bad
        have hprev2 : d'.last ≤ 1048576 ∧ 0 ≤ d'.last := by
          unfold didOk at hprev; simp only [Bool.and_eq_true, inI_iff] at hprev; omega
        obtain ⟨g0, g1, g2⟩ := Did.parts hcz
        rw [Nat.add_assoc] at g1
        repeat (first | refine qwp ?_ | refine qws ?_ | refine qwl ?_ | refine qwf ?_)
        rw [show (j : Int) - 1 = ((j - 1 : Nat) : Int) by omega]
        repeat (first | refine qwp ?_ | refine qwa ?_ | refine qwi ?_ | refine qwl ?_ | refine qwf ?_ | (refine wn rfl ?_; refine eg_then ?_))
        cases q5 : (d'.last + 1 != d.seq)
        · repeat (first | refine cg_region ?_ | refine rg_nil ?_ | refine eg_then ?_ | refine qsp ?_ | refine qsa ?_ | refine cg_cond_false rfl ?_ | refine cg_skip ?_ | refine eg_in_normal ?_)
          have q5' : d'.last + 1 = d.seq := by simpa using q5
          refine eg_again (j + 1) _ ⟨hle4.trans hle6, hjlt, fun n hn hnj => ?_, rfl⟩ (by omega) ⟨rfl, rfl, rfl, rfl, rfl, rfl, rfl, rfl, trivial⟩
          by_cases hnj' : n < j
          · exact hdok n hn hnj'
          · have : n = j := by omega
            subst this
            rw [hd]
            exact ⟨hdid, fun hc' => by rw [hd']; exact q5'⟩
        · repeat (first | refine cg_seq ?_ | refine cg_region ?_ | refine rg_nil ?_ | refine eg_then ?_ | refine qsp ?_ | refine cg_cond_true rfl ?_ | refine cg_ret ?_ | refine eg_then_ret ?_ | refine eg_in_ret ?_)
          exact eg_return rfl rfl (by rw [bad fun hc' => by have := hc'.2 h0; simp at q5; exact q5 this])
      · rw [show decide ((j : Int) > 0) = false by simp; omega]
        repeat (first | refine qwp ?_ | refine qwo ?_ | (refine wn rfl ?_; refine eg_then ?_))
        repeat (first | refine cg_region ?_ | refine rg_nil ?_ | refine eg_then ?_ | refine qsp ?_ | refine qsa ?_ | refine cg_cond_false rfl ?_ | refine cg_skip ?_ | refine eg_in_normal ?_)
        refine eg_again (j + 1) _ ⟨hle4.trans hle6, hjlt, fun n hn hnj => ?_, rfl⟩ (by omega) ⟨rfl, rfl, rfl, rfl, rfl, rfl, rfl, rfl, trivial⟩
        by_cases hnj' : n < j
        · exact hdok n hn hnj'
        have : n = j := by omega
        subst this
        rw [hd]
        exact ⟨hdid, fun hc' => by omega⟩
    · have hjl : j = p.did.length := by simp at hc2; omega
      have hdd : DidsP p.did := fun n hn => hdok n hn (by omega)
      have hpok2 : prodOk p = true := by
        unfold prodOk; rw [q3]; simp only [Bool.true_and, Bool.and_eq_true, decide_eq_true_eq, inI_iff]
        refine ⟨⟨?_, by omega⟩, by omega, hdd⟩
        by_cases h0 : i = 0
        · have := hlast0 h0; omega
        · obtain ⟨h2, e2⟩ := hord h0
          have := (prodOk_iff.1 (hok (i - 1) h2 (by omega)).1).1.1
          omega
      repeat (first | refine cg_region ?_ | refine rg_nil ?_ | refine eg_then ?_ | refine qsp ?_ | refine qsa ?_ | refine eg_in_normal ?_ | refine cg_exit ?_ | refine eg_then_exit ?_ | refine eg_in_exit ?_)
      refine eg_again (i + 1) _ ⟨p.pid, hle.trans (hle3.trans hle4), hlt, hpok.1, fun h => by omega, fun h h2 => by simp [hp], fun n hn hni => ?_, rfl⟩ (by omega) ⟨rfl, rfl, rfl, rfl, trivial⟩
      by_cases hni' : n < i
      · exact hok n hn hni'
      · have : n = i := by omega
        subst this
        rw [hp]
        refine ⟨hpok2, fun h0 => ?_⟩
        obtain ⟨h2, e2⟩ := hord (by omega)
        omega
  · have hil : i = l.length := by simp at hc; omega
    repeat (first | refine cg_seq ?_ | refine cg_region ?_ | refine rg_nil ?_ | refine eg_then ?_ | refine qsp ?_ | refine cg_ret ?_ | refine cg_exit ?_ | refine eg_then_exit ?_ | refine eg_in_exit ?_)
    refine eg_return rfl rfl ?_
    unfold chkP; rw [if_neg hl1, if_pos (show ProdsP l from fun n hn => hok n hn (by omega))]
end Go.Wm

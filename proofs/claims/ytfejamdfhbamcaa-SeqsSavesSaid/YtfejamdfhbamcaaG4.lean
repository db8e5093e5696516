/-
  Producers, the document's: whether they may be, where one stands, whether a batch follows. Conditions: that what is handed in reads as data.
-/
import Derived.Test.YtfejamdfhbamcaaG3
import Derived.Test.YtfejamdfhbamcaaCoB
set_option linter.all false
namespace Go.Wm
open Go.RowKit Go.Proofs
attribute [local irreducible] RG CG EG WA Loc Det Alc CT Exit.then Exit.inBlock Code.wp bodyPost
theorem did_iff {d : Did} : didOk d = true ↔ (0 ≤ d.seq ∧ d.seq ≤ d.last) ∧ (0 ≤ d.last ∧ d.last ≤ 1048576) ∧ (0 ≤ d.base ∧ d.base ≤ 1099511627776) := by
  unfold didOk; simp only [Bool.and_eq_true, inI_iff]
set_option maxHeartbeats 4000000 in
theorem refDid_ct {k : PH} {a : Option Addr} {c : Nat} {l : List Did} (hl : Sl tDid k a c l) : CT Try.prog 72 #[.slice a l.length c] k (fun _ v => v = .bool (decide (DidsP l) && decide (l.length ≤ 5))) := by
  refine ct_of_body (l := [_]) Try.func72 rfl Try.ntmps72 (by simp) (fun _ _ _ _ h => h) fun F hF0 hFm => ?_
  have b1 := hl.cap; have b2 := hl.max; unfold maxLen at b2
  repeat (first | refine cg_seq ?_ | refine cg_region ?_ | refine rg_nil ?_ | refine eg_then ?_ | refine qsp ?_ | refine cg_block ?_)
  refine cg_loop (fun (i : Nat) e k' => Le k k' ∧ i ≤ l.length ∧ (∀ n, (h : n < l.length) → n < i → didOk l[n] = true ∧ (0 < n → l[n - 1].last + 1 = l[n].seq)) ∧ e = [(0, .is (.slice a l.length c)), (3, .is (.int .i64 (i : Int)))])
    (fun i => l.length - i) 0 ⟨Le.refl _, Nat.zero_le _, fun n _ hn => by omega, rfl⟩ ⟨rfl, rfl, trivial⟩ ?_
  rintro i e k1 ⟨hle, hi, hok, rfl⟩
  repeat (first | refine cg_seq ?_ | refine cg_region ?_ | refine rg_nil ?_ | refine eg_then ?_ | refine qsp ?_ | refine qsn ?_)
  refine cg_cond rfl (fun hc => ?_) (fun hc => ?_)
  · have hlt : i < l.length := by simpa using hc
    have hl1 := hl.le hle
    obtain ⟨bx, ox, cx, rfl, ⟨rfl, hdI⟩, hcx⟩ := hl1.el i l[i] (List.getElem?_eq_getElem hlt)
    have hbad := dids_bad hlt
    obtain ⟨d, hd⟩ : ∃ d, l[i] = d := ⟨_, rfl⟩
    rw [hd] at hcx hdI hbad
    have fin : ¬ (didOk d = true ∧ (0 < i → l[i - 1].last + 1 = d.seq)) → (decide (DidsP l) && decide (l.length ≤ 5)) = false := fun hb => by rw [decide_eq_false (hbad hb)]; rfl
    repeat (first | refine cg_seq ?_ | refine cg_region ?_ | refine eg_then ?_ | refine qsp ?_ | refine qsi ?_ | refine qsg ?_ | refine cg_skip ?_ | refine cg_block ?_)
    refine rb rfl rfl rfl rfl (a_alloc rfl) ?_; intro b4 k2 hb4 hN4 hle2 hk2
    refine rw1 (vs := d.vs) rfl rfl rfl rfl rfl rfl rfl hk2 rfl (.inl hN4) ?_ ?_
    · simp [Did.vs, Value.oneCell']
    intro k3 ht3 hk3
    have hle3 : Le k1 k3 := ht3 k1 hle2 hb4
    have hl3 := hl1.le hle3
    obtain ⟨f0, f1, f2⟩ := Did.parts (cells_at (vs := d.vs) hk3 rfl)
    repeat (first | refine cg_seq ?_ | refine rg_nil ?_ | refine eg_then ?_)
    refine cg_any (by kernel_rfl) rfl ?_
    repeat (first | refine qwp ?_ | refine qwl ?_ | refine qwf ?_)
    cases r1 : decide (d.seq < 0)
    case true =>
      have r1 := of_decide_eq_true r1
      repeat (first | refine qwp ?_ | refine qwo ?_ | (refine wn rfl ?_; refine eg_then ?_))
      repeat (first | refine cg_seq ?_ | refine cg_region ?_ | refine rg_nil ?_ | refine eg_then ?_ | refine qsp ?_ | refine cg_cond_true rfl ?_ | refine cg_ret ?_ | refine eg_then_ret ?_ | refine eg_in_ret ?_)
      exact eg_return rfl rfl (by rw [fin fun hc' => by have := (did_iff.1 hc'.1).1; omega])
    have r1 := of_decide_eq_false r1
    repeat (first | refine qwp ?_ | refine qwl ?_ | refine qwf ?_)
    cases r2 : decide (d.last < d.seq)
    case true =>
      have r2 := of_decide_eq_true r2
      repeat (first | refine qwp ?_ | refine qwo ?_ | (refine wn rfl ?_; refine eg_then ?_))
      repeat (first | refine cg_seq ?_ | refine cg_region ?_ | refine rg_nil ?_ | refine eg_then ?_ | refine qsp ?_ | refine cg_cond_true rfl ?_ | refine cg_ret ?_ | refine eg_then_ret ?_ | refine eg_in_ret ?_)
      exact eg_return rfl rfl (by rw [fin fun hc' => by have := (did_iff.1 hc'.1).1; omega])
    have r2 := of_decide_eq_false r2
    repeat (first | refine qwp ?_ | refine qwl ?_ | refine qwf ?_)
    cases r3 : decide (d.last > 1048576)
    case true =>
      have r3 := of_decide_eq_true r3
      repeat (first | refine qwp ?_ | refine qwo ?_ | (refine wn rfl ?_; refine eg_then ?_))
      repeat (first | refine cg_seq ?_ | refine cg_region ?_ | refine rg_nil ?_ | refine eg_then ?_ | refine qsp ?_ | refine cg_cond_true rfl ?_ | refine cg_ret ?_ | refine eg_then_ret ?_ | refine eg_in_ret ?_)
      exact eg_return rfl rfl (by rw [fin fun hc' => by have := (did_iff.1 hc'.1).2.1; omega])
    have r3 := of_decide_eq_false r3
    repeat (first | refine qwp ?_ | refine qwl ?_ | refine qwf ?_)
    cases r4 : decide (d.base < 0)
    case true =>
      have r4 := of_decide_eq_true r4
      repeat (first | refine qwp ?_ | refine qwo ?_ | (refine wn rfl ?_; refine eg_then ?_))
      repeat (first | refine cg_seq ?_ | refine cg_region ?_ | refine rg_nil ?_ | refine eg_then ?_ | refine qsp ?_ | refine cg_cond_true rfl ?_ | refine cg_ret ?_ | refine eg_then_ret ?_ | refine eg_in_ret ?_)
      exact eg_return rfl rfl (by rw [fin fun hc' => by have := (did_iff.1 hc'.1).2.2; omega])
    have r4 := of_decide_eq_false r4
    repeat (first | refine qwp ?_ | refine qwl ?_ | refine qwf ?_)
    cases r5 : decide (d.base > 1099511627776)
    case true =>
      have r5 := of_decide_eq_true r5
      repeat (first | refine qwp ?_ | refine qwo ?_ | (refine wn rfl ?_; refine eg_then ?_))
      repeat (first | refine cg_seq ?_ | refine cg_region ?_ | refine rg_nil ?_ | refine eg_then ?_ | refine qsp ?_ | refine cg_cond_true rfl ?_ | refine cg_ret ?_ | refine eg_then_ret ?_ | refine eg_in_ret ?_)
      exact eg_return rfl rfl (by rw [fin fun hc' => by have := (did_iff.1 hc'.1).2.2; omega])
    have r5 := of_decide_eq_false r5
    have hdid : didOk d = true := did_iff.2 ⟨by omega, by omega, by omega⟩
    repeat (first | refine qwp ?_)
    by_cases h0 : 0 < i
    · rw [show decide ((i : Int) > 0) = true by simp; omega]
      have hj1 : i - 1 < l.length := by omega
      obtain ⟨bz, oz, cz, ez, ⟨rfl, hzI⟩, hcz⟩ := hl3.el (i - 1) l[i - 1] (List.getElem?_eq_getElem hj1)
      cases ez
      have hprev := did_iff.1 (hok (i - 1) hj1 (by omega)).1
      obtain ⟨d', hd'⟩ : ∃ d', l[i - 1] = d' := ⟨_, rfl⟩
      rw [hd'] at hcz hprev fin
      obtain ⟨g0, g1, g2⟩ := Did.parts hcz
      rw [Nat.add_assoc] at g1
      repeat (first | refine qwp ?_ | refine qws ?_ | refine qwl ?_ | refine qwf ?_)
      rw [show (i : Int) - 1 = ((i - 1 : Nat) : Int) by omega]
      repeat (first | refine qwp ?_ | refine qwa ?_ | refine qwi ?_ | refine qwl ?_ | refine qwf ?_ | (refine wn rfl ?_; refine eg_then ?_))
      cases q5 : (d.seq != d'.last + 1)
      · repeat (first | refine cg_region ?_ | refine rg_nil ?_ | refine eg_then ?_ | refine qsp ?_ | refine qsa ?_ | refine cg_cond_false rfl ?_ | refine cg_skip ?_ | refine eg_in_normal ?_)
        have q5' : d'.last + 1 = d.seq := by simp at q5; omega
        refine eg_again (i + 1) _ ⟨hle.trans hle3, hlt, fun n hn hnj => ?_, rfl⟩ (by omega) ⟨rfl, rfl, trivial⟩
        by_cases hnj' : n < i
        · exact hok n hn hnj'
        · have : n = i := by omega
          subst this
          rw [hd]
          exact ⟨hdid, fun hc' => by rw [hd']; exact q5'⟩
      · repeat (first | refine cg_seq ?_ | refine cg_region ?_ | refine rg_nil ?_ | refine eg_then ?_ | refine qsp ?_ | refine cg_cond_true rfl ?_ | refine cg_ret ?_ | refine eg_then_ret ?_ | refine eg_in_ret ?_)
        exact eg_return rfl rfl (by rw [fin fun hc' => by have := hc'.2 h0; simp at q5; exact q5 this.symm])
    · rw [show decide ((i : Int) > 0) = false by simp; omega]
      repeat (first | refine qwp ?_ | refine qwo ?_ | (refine wn rfl ?_; refine eg_then ?_))
      repeat (first | refine cg_region ?_ | refine rg_nil ?_ | refine eg_then ?_ | refine qsp ?_ | refine qsa ?_ | refine cg_cond_false rfl ?_ | refine cg_skip ?_ | refine eg_in_normal ?_)
      refine eg_again (i + 1) _ ⟨hle.trans hle3, hlt, fun n hn hnj => ?_, rfl⟩ (by omega) ⟨rfl, rfl, trivial⟩
      by_cases hnj' : n < i
      · exact hok n hn hnj'
      have : n = i := by omega
      subst this
      rw [hd]
      exact ⟨hdid, fun hc' => by omega⟩
  · have hil : i = l.length := by simp at hc; omega
    repeat (first | refine cg_seq ?_ | refine cg_region ?_ | refine rg_nil ?_ | refine eg_then ?_ | refine qsp ?_ | refine qsn ?_ | refine cg_ret ?_ | refine cg_exit ?_ | refine eg_then_exit ?_ | refine eg_in_exit ?_)
    refine eg_return rfl rfl ?_
    rw [show decide (DidsP l) = true from decide_eq_true fun n hn => hok n hn (by omega)]
    simp
    congr 1
    omega
set_option maxHeartbeats 4000000 in
theorem refSeqsCheck_ct {k : PH} {a : Option Addr} {c : Nat} {l : List ProdT} (hl : Sl tProdT k a c l) : CT Try.prog 23 #[.slice a l.length c] k (fun _ v => v = .int .i64 (chkP l)) := by
  refine ct_of_body (l := [_]) Try.func23 rfl Try.ntmps23 (by simp) (fun _ _ _ _ h => h) fun F hF0 hFm => ?_
  have b1 := hl.cap; have b2 := hl.max; unfold maxLen at b2
  repeat (first | refine cg_seq ?_ | refine cg_region ?_ | refine rg_nil ?_ | refine eg_then ?_ | refine qsp ?_ | refine qsn ?_)
  cases q0 : decide ((l.length : Int) > 1024)
  case true =>
    repeat (first | refine cg_seq ?_ | refine cg_region ?_ | refine rg_nil ?_ | refine eg_then ?_ | refine qsp ?_ | refine cg_cond_true rfl ?_ | refine cg_ret ?_ | refine eg_then_ret ?_)
    refine eg_return rfl rfl ?_
    unfold chkP; rw [if_pos (by have := of_decide_eq_true q0; omega)]
  have hl1 : ¬ 1024 < l.length := by have := of_decide_eq_false q0; omega
  repeat (first | refine cg_seq ?_ | refine cg_region ?_ | refine rg_nil ?_ | refine eg_then ?_ | refine qsp ?_ | refine cg_cond_false rfl ?_ | refine cg_skip ?_ | refine cg_block ?_)
  refine cg_loop (fun (i : Nat) e k' => Le k k' ∧ i ≤ l.length ∧ (∀ j, (h : j < l.length) → j < i → prodOk l[j] = true ∧ (0 < j → l[j - 1].pid < l[j].pid)) ∧ e = [(0, .is (.slice a l.length c)), (3, .is (.int .i64 (i : Int)))])
    (fun i => l.length - i) 0 ⟨Le.refl _, Nat.zero_le _, fun j _ hj => by omega, rfl⟩ ⟨rfl, rfl, trivial⟩ ?_
  rintro i e k1 ⟨hle, hi, hok, rfl⟩
  repeat (first | refine cg_seq ?_ | refine cg_region ?_ | refine rg_nil ?_ | refine eg_then ?_ | refine qsp ?_ | refine qsn ?_)
  refine cg_cond rfl (fun hc => ?_) (fun hc => ?_)
  · have hlt : i < l.length := by simpa using hc
    have hl2 := hl.le hle
    obtain ⟨bx, ox, cx, rfl, ⟨a0, c0, rfl, hsd, hpok⟩, hcx⟩ := hl2.el i l[i] (List.getElem?_eq_getElem hlt)
    have hlen := prods_bad hlt
    obtain ⟨p, hp⟩ : ∃ p, l[i] = p := ⟨_, rfl⟩
    rw [hp] at hcx hsd hpok hlen
    have bad : ¬ (prodOk p = true ∧ (0 < i → l[i - 1].pid < p.pid)) → chkP l = 1 := fun hb => chk_bad hl1 (hlen hb)
    repeat (first | refine cg_seq ?_ | refine cg_region ?_ | refine eg_then ?_ | refine qsp ?_ | refine qsi ?_ | refine qsg ?_ | refine cg_skip ?_ | refine cg_block ?_)
    refine rb rfl rfl rfl rfl (a_alloc rfl) ?_; intro b5 k2 hb5 hN5 hle2 hk2
    refine rw1 (vs := p.cs a0 c0) rfl rfl rfl rfl rfl rfl rfl hk2 rfl (.inl hN5) ?_ ?_
    · simp [ProdT.cs, Value.oneCell']
    intro k3 ht3 hk3
    have hle3 : Le k1 k3 := ht3 k1 hle2 hb5
    have hsd := hsd.le hle3
    have hl3 := hl2.le hle3
    obtain ⟨p0, p1, p2⟩ := ProdT.parts (cells_at (vs := p.cs a0 c0) hk3 rfl)
    repeat (first | refine cg_seq ?_ | refine rg_nil ?_ | refine eg_then ?_)
    refine cg_any (by kernel_rfl) rfl ?_
    repeat (first | refine qwp ?_ | refine qwl ?_ | refine qwf ?_)
    cases r1 : decide (p.pid < 0)
    case true =>
      have r1 := of_decide_eq_true r1
      repeat (first | refine qwp ?_ | refine qwo ?_ | (refine wn rfl ?_; refine eg_then ?_))
      repeat (first | refine cg_seq ?_ | refine cg_region ?_ | refine rg_nil ?_ | refine eg_then ?_ | refine qsp ?_ | refine cg_cond_true rfl ?_ | refine cg_ret ?_ | refine eg_then_ret ?_ | refine eg_in_ret ?_)
      exact eg_return rfl rfl (by rw [bad fun hc' => by have := (prodOk_iff.1 hc'.1).1; omega])
    have r1 := of_decide_eq_false r1
    repeat (first | refine qwp ?_ | refine qwl ?_ | refine qwf ?_)
    cases r2 : decide (p.pid > 1099511627776)
    case true =>
      have r2 := of_decide_eq_true r2
      repeat (first | refine qwp ?_ | refine qwo ?_ | (refine wn rfl ?_; refine eg_then ?_))
      repeat (first | refine cg_seq ?_ | refine cg_region ?_ | refine rg_nil ?_ | refine eg_then ?_ | refine qsp ?_ | refine cg_cond_true rfl ?_ | refine cg_ret ?_ | refine eg_then_ret ?_ | refine eg_in_ret ?_)
      exact eg_return rfl rfl (by rw [bad fun hc' => by have := (prodOk_iff.1 hc'.1).1; omega])
    have r2 := of_decide_eq_false r2
    repeat (first | refine qwp ?_ | refine qwl ?_ | refine qwf ?_)
    cases r3 : decide (p.gen < 0)
    case true =>
      have r3 := of_decide_eq_true r3
      repeat (first | refine qwp ?_ | refine qwo ?_ | (refine wn rfl ?_; refine eg_then ?_))
      repeat (first | refine cg_seq ?_ | refine cg_region ?_ | refine rg_nil ?_ | refine eg_then ?_ | refine qsp ?_ | refine cg_cond_true rfl ?_ | refine cg_ret ?_ | refine eg_then_ret ?_ | refine eg_in_ret ?_)
      exact eg_return rfl rfl (by rw [bad fun hc' => by have := (prodOk_iff.1 hc'.1).2.1; omega])
    have r3 := of_decide_eq_false r3
    repeat (first | refine qwp ?_ | refine qwl ?_ | refine qwf ?_)
    cases r4 : decide (p.gen > 1048576)
    case true =>
      have r4 := of_decide_eq_true r4
      repeat (first | refine qwp ?_ | refine qwo ?_ | (refine wn rfl ?_; refine eg_then ?_))
      repeat (first | refine cg_seq ?_ | refine cg_region ?_ | refine rg_nil ?_ | refine eg_then ?_ | refine qsp ?_ | refine cg_cond_true rfl ?_ | refine cg_ret ?_ | refine eg_then_ret ?_ | refine eg_in_ret ?_)
      exact eg_return rfl rfl (by rw [bad fun hc' => by have := (prodOk_iff.1 hc'.1).2.1; omega])
    have r4 := of_decide_eq_false r4
    have hdd : (decide (DidsP p.did) && decide (p.did.length ≤ 5)) = true → (0 < i → l[i - 1].pid < p.pid) → ∀ j, (h : j < l.length) → j < i + 1 → prodOk l[j] = true ∧ (0 < j → l[j - 1].pid < l[j].pid) := fun hd ho j hj hji => by
      by_cases hji' : j < i
      · exact hok j hj hji'
      · have : j = i := by omega
        subst this
        rw [hp]
        simp only [Bool.and_eq_true, decide_eq_true_eq] at hd
        exact ⟨prodOk_iff.2 ⟨by omega, by omega, hd.2, hd.1⟩, ho⟩
    repeat (first | refine qwp ?_)
    by_cases h0 : 0 < i
    · rw [show decide ((i : Int) > 0) = true by simp; omega]
      have hj1 : i - 1 < l.length := by omega
      obtain ⟨bz, oz, cz, ez, ⟨az, czz, rfl, hzs, hzI⟩, hcz⟩ := hl3.el (i - 1) l[i - 1] (List.getElem?_eq_getElem hj1)
      cases ez
      obtain ⟨d', hd'⟩ : ∃ d', l[i - 1] = d' := ⟨_, rfl⟩
      rw [hd'] at hcz bad hdd
      obtain ⟨g0, g1, g2⟩ := ProdT.parts hcz
      repeat (first | refine qwp ?_ | refine qws ?_ | refine qwl ?_ | refine qwf ?_)
      rw [show (i : Int) - 1 = ((i - 1 : Nat) : Int) by omega]
      repeat (first | refine qwp ?_ | refine qwi ?_ | refine qwl ?_ | refine qwf ?_)
      cases q5 : decide (p.pid ≤ d'.pid)
      · have q5 := of_decide_eq_false q5
        repeat (first | refine qwl ?_ | refine qwf ?_)
        refine ws rfl (loc_call_is rfl rfl rfl rfl (refDid_ct hsd)) ?_
        repeat (first | refine qwp ?_ | (refine wn rfl ?_; refine eg_then ?_))
        cases q6 : (decide (DidsP p.did) && decide (p.did.length ≤ 5))
        · repeat (first | refine cg_seq ?_ | refine cg_region ?_ | refine rg_nil ?_ | refine eg_then ?_ | refine qsp ?_ | refine cg_cond_true rfl ?_ | refine cg_ret ?_ | refine eg_then_ret ?_ | refine eg_in_ret ?_)
          exact eg_return rfl rfl (by rw [bad fun hc' => by have := prodOk_iff.1 hc'.1; simp [this.2.2.1, this.2.2.2] at q6])
        · repeat (first | refine cg_region ?_ | refine rg_nil ?_ | refine eg_then ?_ | refine qsp ?_ | refine qsa ?_ | refine cg_cond_false rfl ?_ | refine cg_skip ?_ | refine eg_in_normal ?_)
          exact eg_again (i + 1) _ ⟨hle.trans hle3, hlt, hdd q6 fun _ => by omega, rfl⟩ (by omega) ⟨rfl, rfl, trivial⟩
      · have q5 := of_decide_eq_true q5
        repeat (first | refine qwp ?_ | refine qwo ?_ | (refine wn rfl ?_; refine eg_then ?_))
        repeat (first | refine cg_seq ?_ | refine cg_region ?_ | refine rg_nil ?_ | refine eg_then ?_ | refine qsp ?_ | refine cg_cond_true rfl ?_ | refine cg_ret ?_ | refine eg_then_ret ?_ | refine eg_in_ret ?_)
        exact eg_return rfl rfl (by rw [bad fun hc' => by have := hc'.2 h0; omega])
    · rw [show decide ((i : Int) > 0) = false by simp; omega]
      repeat (first | refine qwp ?_ | refine qwl ?_ | refine qwf ?_ | refine qwo ?_)
      refine ws rfl (loc_call_is rfl rfl rfl rfl (refDid_ct hsd)) ?_
      repeat (first | refine qwp ?_ | (refine wn rfl ?_; refine eg_then ?_))
      cases q6 : (decide (DidsP p.did) && decide (p.did.length ≤ 5))
      · repeat (first | refine cg_seq ?_ | refine cg_region ?_ | refine rg_nil ?_ | refine eg_then ?_ | refine qsp ?_ | refine cg_cond_true rfl ?_ | refine cg_ret ?_ | refine eg_then_ret ?_ | refine eg_in_ret ?_)
        exact eg_return rfl rfl (by rw [bad fun hc' => by have := prodOk_iff.1 hc'.1; simp [this.2.2.1, this.2.2.2] at q6])
      · repeat (first | refine cg_region ?_ | refine rg_nil ?_ | refine eg_then ?_ | refine qsp ?_ | refine qsa ?_ | refine cg_cond_false rfl ?_ | refine cg_skip ?_ | refine eg_in_normal ?_)
        exact eg_again (i + 1) _ ⟨hle.trans hle3, hlt, hdd q6 fun hc' => by omega, rfl⟩ (by omega) ⟨rfl, rfl, trivial⟩
  · have hil : i = l.length := by simp at hc; omega
    repeat (first | refine cg_seq ?_ | refine cg_region ?_ | refine rg_nil ?_ | refine eg_then ?_ | refine qsp ?_ | refine cg_ret ?_ | refine cg_exit ?_ | refine eg_then_exit ?_ | refine eg_in_exit ?_)
    refine eg_return rfl rfl ?_
    unfold chkP; rw [if_neg hl1, if_pos (show ProdsP l from fun n hn => hok n hn (by omega))]
end Go.Wm

/-
  Producers, the document's: whether a batch begins a producer's numbers, and whether it follows. Conditions: that what is handed in reads as data.
-/
import Derived.Test.YtfejamdfhbamcaaG4
set_option linter.all false
namespace Go.Wm
open Go.RowKit Go.Proofs
/-- What a search says of a batch's producer. -/
theorem state_idx (l : List ProdT) (b : Batch) : (idxF l (fun p => decide (p.pid = b.pid)) = -1 ∧ findP l b.pid = none ∧ stateR l b = (⟨b.pid, b.gen, []⟩, false)) ∨
    ∃ i, ∃ h : i < l.length, idxF l (fun p => decide (p.pid = b.pid)) = (i : Int) ∧ findP l b.pid = some l[i] ∧ stateR l b = if b.gen ≤ l[i].gen then (l[i], decide (b.gen < l[i].gen)) else (⟨b.pid, b.gen, []⟩, false) := by
  rcases idxF_cases l (fun p => decide (p.pid = b.pid)) with ⟨h1, h2⟩ | ⟨i, h, h1, h2, h3⟩
  · have hf : findP l b.pid = none := by
      unfold findP; rw [List.find?_eq_none]; intro x hx; rw [h2 x hx]; simp
    exact .inl ⟨h1, hf, by unfold stateR; rw [hf]⟩
  · have hf := idx_find h h2 h3
    exact .inr ⟨i, h, h1, hf, by unfold stateR; rw [hf]⟩
attribute [local irreducible] RG CG EG WA Loc Det Alc CT Exit.then Exit.inBlock Code.wp bodyPost
set_option maxHeartbeats 1000000 in
theorem fresh_ct {k : PH} {a : Option Addr} {c : Nat} {l : List ProdT} {b : Batch} {ab : Option Addr} {cb : Nat} (hl : Sl tProdT k a c l) (hs : (stateR l b).2 = false) : CT Try.prog 69 #[.slice a l.length c, .agg (b.cs ab cb).toArray] k (fun _ v => v = .bool (stateR l b).1.did.isEmpty) := by
  refine ct_of_body (l := [_, _]) Try.func69 rfl Try.ntmps69 (by simp) (fun _ _ _ _ h => h) fun F hF0 hFm => ?_
  have b1 := hl.cap; have b2 := hl.max; unfold maxLen at b2
  repeat (first | refine cg_seq ?_ | refine cg_region ?_)
  refine rb rfl rfl rfl rfl (a_box rfl rfl) ?_; intro b3 k3 hb3 hN3 hle3 hk3
  have hl3 := hl.le hle3
  obtain ⟨p0, p1, p2, p3, p4, p5, p6, p7, p8, p9⟩ := Batch.parts (cells_at (vs := b.cs ab cb) hk3 rfl)
  repeat (first | refine cg_seq ?_ | refine cg_region ?_ | refine rg_nil ?_ | refine eg_then ?_ | refine qsp ?_ | refine qsl ?_ | refine qsf ?_)
  refine rs rfl rfl (loc_call_is rfl rfl rfl rfl (refFind_ct hl3 b.pid)) ?_
  rcases state_idx l b with ⟨h1, _, h2⟩ | ⟨i, hi, h1, _, h2⟩
  · rw [h1, h2]
    repeat (first | refine cg_seq ?_ | refine rg_nil ?_ | refine eg_then ?_ | refine qsp ?_)
    refine cg_any (by kernel_rfl) rfl ?_
    repeat (first | refine qwp ?_ | refine qwo ?_ | (refine wn rfl ?_; refine eg_then ?_))
    repeat (first | refine cg_ret ?_)
    exact eg_return rfl rfl rfl
  · rw [h1]
    rw [h2] at hs
    obtain ⟨bx, ox, cx, rfl, ⟨a0, c0, rfl, hsd, hpok⟩, hcx⟩ := hl3.el i l[i] (List.getElem?_eq_getElem hi)
    obtain ⟨p, hp⟩ : ∃ p, l[i] = p := ⟨_, rfl⟩
    rw [hp] at hcx hsd hs h2
    obtain ⟨e0, e1, e2⟩ := ProdT.parts hcx
    repeat (first | refine cg_seq ?_ | refine rg_nil ?_ | refine eg_then ?_ | refine qsp ?_)
    refine cg_any (by kernel_rfl) rfl ?_
    repeat (first | refine qwp ?_ | refine qwi ?_ | refine qwl ?_ | refine qwf ?_)
    rw [show decide (((i : Nat) : Int) < 0) = false by simp]
    skip
    cases q : decide (p.gen < b.gen)
    · have q := of_decide_eq_false q
      rw [if_pos (by omega)] at h2
      repeat (first | refine qwp ?_ | refine qwn ?_ | refine qwi ?_ | refine qwl ?_ | refine qwf ?_ | (refine wn rfl ?_; refine eg_then ?_))
      repeat (first | refine cg_ret ?_)
      refine eg_return rfl rfl ?_
      rw [h2]
      cases p.did with
      | nil => rfl
      | cons x r => simp; omega
    · have q := of_decide_eq_true q
      rw [if_neg (by omega)] at h2
      repeat (first | refine qwp ?_ | refine qwo ?_ | (refine wn rfl ?_; refine eg_then ?_))
      repeat (first | refine cg_ret ?_)
      exact eg_return rfl rfl (by rw [h2]; rfl)
set_option maxHeartbeats 4000000 in
theorem refLook_ct {k : PH} {a : Option Addr} {c : Nat} {l : List ProdT} {b : Batch} {ab : Option Addr} {cb : Nat} (hl : Sl tProdT k a c l) (hr : Sl tRec k ab cb b.recs) (hok : b.ok) : CT Try.prog 21 #[.slice a l.length c, .agg (b.cs ab cb).toArray] k (fun _ v => v = lookVal (lookR l b)) := by
  refine ct_of_body (l := [_, _]) Try.func21 rfl Try.ntmps21 (by simp) (fun _ _ _ _ h => h) fun F hF0 hFm => ?_
  have b1 := hl.cap; have b2 := hl.max; unfold maxLen at b2
  repeat (first | refine cg_seq ?_ | refine cg_region ?_)
  refine rb rfl rfl rfl rfl (a_box rfl rfl) ?_; intro b3 k3 hb3 hN3 hle3 hk3
  have hl3 := hl.le hle3
  have hr3 := hr.le hle3
  have cb3 := cells_at (vs := b.cs ab cb) hk3 rfl
  repeat (first | refine cg_seq ?_ | refine cg_region ?_ | refine rg_nil ?_ | refine eg_then ?_ | refine qsp ?_)
  refine rs rfl rfl (loc_call_is rfl rfl rfl rfl (refSeqsCheck_ct hl3)) ?_
  repeat (first | refine cg_seq ?_ | refine cg_region ?_ | refine rg_nil ?_ | refine eg_then ?_ | refine qsp ?_)
  cases q1 : (chkP l == 0)
  · have h1 : chkP l ≠ 0 := by simpa using q1
    repeat (first | refine cg_seq ?_ | refine cg_region ?_ | refine eg_then ?_ | refine qsp ?_ | refine cg_cond_false rfl ?_ | refine cg_skip ?_)
    rw [show (chkP l != 0) = true by simpa using h1]
    repeat (first | refine cg_seq ?_ | refine cg_region ?_ | refine rg_nil ?_ | refine eg_then ?_ | refine qsp ?_ | refine qso ?_ | refine cg_cond_true rfl ?_ | refine cg_ret ?_ | refine eg_then_ret ?_)
    refine eg_return3 rfl rfl rfl rfl ?_
    unfold lookR; rw [if_pos h1]; rfl
  have h1 : chkP l = 0 := by simpa using q1
  obtain ⟨hlen, hps⟩ := chk_zero.1 h1
  have hlk : lookR l b = if chkB b ≠ 0 ∨ b.pid < 0 then (0, false, chkB b) else if (stateR l b).2 = true then (0, false, 110) else if b.ctl ≠ 0 then (0, false, 0) else stepLook (stateR l b).1 b := by
    conv => lhs; unfold lookR
    rw [if_neg (by simp [h1])]
  repeat (first | refine cg_region ?_ | refine qsg ?_ | refine cg_cond_true rfl ?_)
  refine rs rfl rfl (loc_call_is rfl rfl rfl rfl (refChk_ct hr3 hok)) ?_
  repeat (first | refine cg_seq ?_ | refine cg_region ?_ | refine rg_nil ?_ | refine eg_then ?_ | refine qsp ?_)
  cases q2 : (chkB b != 0)
  case true =>
    repeat (first | refine cg_seq ?_ | refine cg_region ?_ | refine rg_nil ?_ | refine eg_then ?_ | refine qsp ?_ | refine qso ?_ | refine cg_cond_true rfl ?_ | refine cg_ret ?_ | refine eg_then_ret ?_)
    refine eg_return3 rfl rfl rfl rfl ?_
    rw [hlk, if_pos (.inl (by simpa using q2))]; rfl
  have h2 : chkB b = 0 := by simpa using q2
  have hform := chkB_form h2
  obtain ⟨p0, p1, p2, p3, p4, p5, p6, p7, p8, p9⟩ := Batch.parts cb3
  repeat (first | refine rg_nil ?_ | refine eg_then ?_ | refine qsp ?_ | refine qsl ?_ | refine qsf ?_)
  cases q3 : (b.pid == -1)
  case true =>
    have : b.pid = -1 := by simpa using q3
    repeat (first | refine cg_seq ?_ | refine cg_region ?_ | refine rg_nil ?_ | refine eg_then ?_ | refine qsp ?_ | refine cg_cond_true rfl ?_ | refine cg_ret ?_ | refine eg_then_ret ?_)
    refine eg_return3 rfl rfl rfl rfl ?_
    rw [hlk, if_pos (.inr (by omega)), h2]; rfl
  have h3 : ¬ b.pid < 0 := by have := hform.some (by simpa using q3); omega
  rw [if_neg (by simp [h2]; omega)] at hlk
  have hpid := form_pid hform h3
  repeat (first | refine cg_seq ?_ | refine cg_region ?_ | refine eg_then ?_ | refine qsp ?_ | refine qsl ?_ | refine qsf ?_ | refine cg_cond_false rfl ?_ | refine cg_skip ?_)
  refine rs rfl rfl (loc_call_is rfl rfl rfl rfl (refFind_ct hl3 b.pid)) ?_
  have hfr := fresh_ct (k := k3) (b := b) (ab := ab) (cb := cb) hl3
  -- behind the fence
  have tail : ∀ (iv : Int) (e' : Env), True → True := fun _ _ _ => trivial
  rcases state_idx l b with ⟨hi1, _, hst⟩ | ⟨i, hi, hi1, _, hst⟩
  · rw [hi1]
    rw [hst] at hlk hfr
    have hfr := hfr rfl
    rw [if_neg (by simp)] at hlk
    repeat (first | refine cg_seq ?_ | refine rg_nil ?_ | refine eg_then ?_ | refine qsp ?_)
    refine cg_any (by kernel_rfl) rfl ?_
    repeat (first | refine qwp ?_ | refine qwo ?_ | (refine wn rfl ?_; refine eg_then ?_))
    repeat (first | refine cg_seq ?_ | refine cg_region ?_ | refine rg_nil ?_ | refine eg_then ?_ | refine qsp ?_ | refine qsl ?_ | refine qsf ?_ | refine cg_cond_false rfl ?_ | refine cg_skip ?_)
    cases q4 : (b.ctl != 0)
    case true =>
      repeat (first | refine cg_seq ?_ | refine cg_region ?_ | refine rg_nil ?_ | refine eg_then ?_ | refine qsp ?_ | refine cg_cond_true rfl ?_ | refine cg_ret ?_ | refine eg_then_ret ?_)
      refine eg_return3 rfl rfl rfl rfl ?_
      rw [hlk, if_pos (by simpa using q4)]; rfl
    rw [if_neg (by simpa using q4)] at hlk
    have cb3 := cb3
    repeat (first | refine cg_seq ?_ | refine cg_region ?_ | refine eg_then ?_ | refine qsp ?_ | refine qsg ?_ | refine cg_cond_false rfl ?_ | refine cg_skip ?_)
    refine rs rfl rfl (loc_call_is rfl rfl rfl rfl (hfr)) ?_
    repeat (first | refine cg_seq ?_ | refine cg_region ?_ | refine rg_nil ?_ | refine eg_then ?_ | refine qsp ?_ | refine qsl ?_ | refine qsf ?_ | refine cg_cond_true rfl ?_)
    cases q5 : (b.seq != 0)
    · repeat (first | refine cg_seq ?_ | refine cg_region ?_ | refine rg_nil ?_ | refine eg_then ?_ | refine qsp ?_ | refine cg_cond_false rfl ?_ | refine cg_skip ?_ | refine cg_ret ?_ | refine eg_then_ret ?_)
      refine eg_return3 rfl rfl rfl rfl ?_
      rw [hlk]; unfold stepLook; dsimp only [List.find?_nil]; rw [if_pos (by simpa [nextD] using q5)]; rfl
    · repeat (first | refine cg_seq ?_ | refine cg_region ?_ | refine rg_nil ?_ | refine eg_then ?_ | refine qsp ?_ | refine cg_cond_true rfl ?_ | refine cg_ret ?_ | refine eg_then_ret ?_)
      refine eg_return3 rfl rfl rfl rfl ?_
      rw [hlk]; unfold stepLook; dsimp only [List.find?_nil]; rw [if_neg (by simpa [nextD] using q5)]; rfl
  · rw [hi1]
    have hso : (stateR l b).2 = false → _ := state_ok (b := b) hps
    obtain ⟨bx, ox, cx, rfl, ⟨a0, c0, rfl, hsd, hpok⟩, hcx⟩ := hl3.el i l[i] (List.getElem?_eq_getElem hi)
    obtain ⟨p, hp⟩ : ∃ p, l[i] = p := ⟨_, rfl⟩
    rw [hp] at hcx hsd hst
    obtain ⟨e0, e1, e2⟩ := ProdT.parts hcx
    repeat (first | refine cg_seq ?_ | refine rg_nil ?_ | refine eg_then ?_ | refine qsp ?_)
    refine cg_any (by kernel_rfl) rfl ?_
    repeat (first | refine qwp ?_ | refine qwi ?_ | refine qwl ?_ | refine qwf ?_ | (refine wn rfl ?_; refine eg_then ?_))
    rw [show decide (((i : Nat) : Int) ≥ 0) = true by simp]
    skip
    cases q4 : decide (p.gen > b.gen)
    case true =>
      have q4 := of_decide_eq_true q4
      rw [if_pos (by omega)] at hst
      skip
      repeat (first | refine cg_seq ?_ | refine cg_region ?_ | refine rg_nil ?_ | refine eg_then ?_ | refine qsp ?_ | refine cg_cond_true rfl ?_ | refine cg_ret ?_ | refine eg_then_ret ?_)
      refine eg_return3 rfl rfl rfl rfl ?_
      rw [hlk, hst, if_pos (by simp; omega)]; rfl
    have q4 := of_decide_eq_false q4
    have hnf : (stateR l b).2 = false := by
      rw [hst]; split
      · simp; omega
      · rfl
    have hfr := hfr hnf
    obtain ⟨_, _, hdp, hd5⟩ := hso hnf
    rw [hnf, if_neg (by simp)] at hlk
    have hdid : (stateR l b).1.did = if b.gen ≤ p.gen then p.did else [] := by rw [hst]; split <;> rfl
    skip
    repeat (first | refine cg_seq ?_ | refine cg_region ?_ | refine rg_nil ?_ | refine eg_then ?_ | refine qsp ?_ | refine qsl ?_ | refine qsf ?_ | refine cg_cond_false rfl ?_ | refine cg_skip ?_)
    cases q5 : (b.ctl != 0)
    case true =>
      repeat (first | refine cg_seq ?_ | refine cg_region ?_ | refine rg_nil ?_ | refine eg_then ?_ | refine qsp ?_ | refine cg_cond_true rfl ?_ | refine cg_ret ?_ | refine eg_then_ret ?_)
      refine eg_return3 rfl rfl rfl rfl ?_
      rw [hlk, if_pos (by simpa using q5)]; rfl
    rw [if_neg (by simpa using q5)] at hlk
    have cb3 := cb3
    repeat (first | refine cg_seq ?_ | refine cg_region ?_ | refine eg_then ?_ | refine qsp ?_ | refine qsg ?_ | refine cg_cond_false rfl ?_ | refine cg_skip ?_)
    refine rs rfl rfl (loc_call_is rfl rfl rfl rfl (hfr)) ?_
    generalize hsp : (stateR l b).1 = sp at hlk hdp hd5 hdid ⊢
    cases q6 : sp.did.isEmpty
    case true =>
      have hnil : sp.did = [] := by simpa using q6
      repeat (first | refine cg_seq ?_ | refine cg_region ?_ | refine rg_nil ?_ | refine eg_then ?_ | refine qsp ?_ | refine qsl ?_ | refine qsf ?_ | refine cg_cond_true rfl ?_)
      cases q5 : (b.seq != 0)
      · repeat (first | refine cg_seq ?_ | refine cg_region ?_ | refine rg_nil ?_ | refine eg_then ?_ | refine qsp ?_ | refine cg_cond_false rfl ?_ | refine cg_skip ?_ | refine cg_ret ?_ | refine eg_then_ret ?_)
        refine eg_return3 rfl rfl rfl rfl ?_
        rw [hlk]; unfold stepLook; rw [hnil]; dsimp only [List.find?_nil]; rw [if_pos (by simpa [nextD] using q5)]; rfl
      · repeat (first | refine cg_seq ?_ | refine cg_region ?_ | refine rg_nil ?_ | refine eg_then ?_ | refine qsp ?_ | refine cg_cond_true rfl ?_ | refine cg_ret ?_ | refine eg_then_ret ?_)
        refine eg_return3 rfl rfl rfl rfl ?_
        rw [hlk]; unfold stepLook; rw [hnil]; dsimp only [List.find?_nil]; rw [if_neg (by simpa [nextD] using q5)]; rfl
    have hne : sp.did ≠ [] := by simpa using q6
    have hge : b.gen ≤ p.gen := by
      apply Decidable.byContradiction; intro hc'
      rw [if_neg hc'] at hdid; exact hne hdid
    rw [if_pos hge] at hdid
    rw [hdid] at hne hdp hd5
    have hlk : lookR l b = match p.did.find? (sameD b) with | some d => (d.base, true, 0) | none => if b.seq = nextD p.did then (0, false, 0) else (0, false, 111) := by rw [hlk]; unfold stepLook; rw [hdid]; cases p.did.find? (sameD b) <;> rfl
    have d1 := hsd.cap; have d2 := hsd.max; unfold maxLen at d2
    have hpos : 0 < p.did.length := List.length_pos_iff.2 hne
    clear p0 p1 p2 p3 p4 p5 p6 p7 p8 p9
    repeat (first | refine cg_seq ?_ | refine cg_region ?_ | refine rg_nil ?_ | refine eg_then ?_ | refine qsp ?_ | refine qsi ?_ | refine qsl ?_ | refine qsf ?_ | refine cg_cond_false rfl ?_ | refine cg_skip ?_ | refine cg_block ?_)
    refine cg_loop (fun (j : Nat) e k' => k' = k3 ∧ j ≤ p.did.length ∧ (∀ n, (h : n < p.did.length) → n < j → sameD b p.did[n] = false) ∧ e = [(3, .is (.pointer (some ⟨b3, 0, none⟩))), (9, .is (.slice a0 p.did.length c0)), (10, .is (.int .i64 (j : Int)))])
      (fun j => p.did.length - j) 0 ⟨rfl, Nat.zero_le _, fun n _ hn => by omega, rfl⟩ ⟨rfl, rfl, rfl, trivial⟩ ?_
    rintro j e k7 ⟨rfl, hj, hno, rfl⟩
    repeat (first | refine cg_seq ?_ | refine cg_region ?_ | refine rg_nil ?_ | refine eg_then ?_ | refine qsp ?_ | refine qsn ?_)
    refine cg_cond rfl (fun hc => ?_) (fun hc => ?_)
    · have hjlt : j < p.did.length := by simpa using hc
      obtain ⟨by', oy, cy, rfl, ⟨rfl, hdI⟩, hcy⟩ := hsd.el j p.did[j] (List.getElem?_eq_getElem hjlt)
      have hfa := find_at (f := sameD b) hjlt
      obtain ⟨d, hd⟩ : ∃ d, p.did[j] = d := ⟨_, rfl⟩
      rw [hd] at hcy hdI hfa
      obtain ⟨f0, f1, f2⟩ := Did.parts hcy
      obtain ⟨p0, p1, p2, p3, p4, p5, p6, p7, p8, p9⟩ := Batch.parts cb3
      have goon : sameD b d = false → ∀ n, (h : n < p.did.length) → n < j + 1 → sameD b p.did[n] = false := fun hs n hn hnj => by
        by_cases hnj' : n < j
        · exact hno n hn hnj'
        · have : n = j := by omega
          subst this; rw [hd]; exact hs
      repeat (first | refine cg_seq ?_ | refine eg_then ?_ | refine cg_skip ?_ | refine cg_block ?_)
      refine cg_any (by kernel_rfl) rfl ?_
      repeat (first | refine qwp ?_ | refine qwi ?_ | refine qwl ?_ | refine qwf ?_)
      cases q7 : (d.seq == b.seq)
      · have hs : sameD b d = false := by
          unfold sameD; rw [show decide (b.seq = d.seq) = false by simp at q7; simp; exact fun h => q7 h.symm]; rfl
        repeat (first | refine qwp ?_ | refine qwo ?_ | (refine wn rfl ?_; refine eg_then ?_))
        repeat (first | refine cg_region ?_ | refine rg_nil ?_ | refine eg_then ?_ | refine qsp ?_ | refine qsa ?_ | refine cg_cond_false rfl ?_ | refine cg_skip ?_ | refine eg_in_normal ?_)
        exact eg_again (j + 1) _ ⟨rfl, hjlt, goon hs, rfl⟩ (by omega) ⟨rfl, rfl, rfl, trivial⟩
      · have e1 : d.seq = b.seq := by simpa using q7
        clear p0 p1 p2 p3 p4 p5 p6 p7 p8 p9
        have cb3 := cb3
        repeat (first | refine qwp ?_ | refine qwi ?_ | refine qwl ?_ | refine qwg ?_ | refine qwf ?_)
        refine ws rfl (loc_call_is rfl rfl rfl rfl (refLast_ct hform)) ?_
        repeat (first | refine qwp ?_ | (refine wn rfl ?_; refine eg_then ?_))
        cases q8 : (d.last == b.seq + b.last - b.base)
        · have hs : sameD b d = false := by
            unfold sameD; rw [show decide (b.seq + b.last - b.base = d.last) = false by simp at q8; simp; exact fun h => q8 h.symm]; simp
          repeat (first | refine cg_region ?_ | refine rg_nil ?_ | refine eg_then ?_ | refine qsp ?_ | refine qsa ?_ | refine cg_cond_false rfl ?_ | refine cg_skip ?_ | refine eg_in_normal ?_)
          exact eg_again (j + 1) _ ⟨rfl, hjlt, goon hs, rfl⟩ (by omega) ⟨rfl, rfl, rfl, trivial⟩
        · have hs : sameD b d = true := by
            have e2 : d.last = b.seq + b.last - b.base := by simpa using q8
            unfold sameD; rw [e1, e2]; simp
          repeat (first | refine cg_seq ?_ | refine cg_region ?_ | refine rg_nil ?_ | refine eg_then ?_ | refine qsp ?_ | refine qsi ?_ | refine qsl ?_ | refine qsf ?_ | refine cg_cond_true rfl ?_ | refine cg_ret ?_ | refine eg_then_ret ?_ | refine eg_in_ret ?_)
          refine eg_return3 rfl rfl rfl rfl ?_
          rw [hlk, hfa hs hno]; rfl
    · have hjl : j = p.did.length := by simp at hc; omega
      have hnone := find_no (f := sameD b) (l := p.did) fun n hn => hno n hn (by omega)
      have hnx := nextD_at (l := p.did)
      rw [dif_pos hpos] at hnx
      obtain ⟨by', oy, cy, rfl, ⟨rfl, hdI⟩, hcy⟩ := hsd.el (p.did.length - 1) p.did[p.did.length - 1] (List.getElem?_eq_getElem (by omega))
      have hdk := dids_mem hdp p.did[p.did.length - 1] (List.getElem_mem (by omega))
      obtain ⟨d, hd⟩ : ∃ d, p.did[p.did.length - 1] = d := ⟨_, rfl⟩
      rw [hd] at hcy hdI hnx hdk
      have hdl : d.last ≤ 1048576 ∧ 0 ≤ d.last := by
        unfold didOk at hdk; simp only [Bool.and_eq_true, inI_iff] at hdk; omega
      obtain ⟨f0, f1, f2⟩ := Did.parts hcy
      obtain ⟨p0, p1, p2, p3, p4, p5, p6, p7, p8, p9⟩ := Batch.parts cb3
      rw [hnone] at hlk
      dsimp only at hlk
      rw [hnx] at hlk
      repeat (first | refine cg_seq ?_ | refine eg_then ?_ | refine cg_exit ?_ | refine eg_then_exit ?_ | refine eg_in_exit ?_)
      refine cg_any (by kernel_rfl) rfl ?_
      repeat (first | refine qwp ?_ | refine qwn ?_ | refine qws ?_ | refine qwl ?_ | refine qwf ?_)
      rw [show (p.did.length : Int) - 1 = ((p.did.length - 1 : Nat) : Int) by omega]
      repeat (first | refine qwp ?_ | refine qwa ?_ | refine qwi ?_ | refine qwl ?_ | refine qwf ?_ | (refine wn rfl ?_; refine eg_then ?_))
      cases q9 : (b.seq != d.last + 1)
      · repeat (first | refine cg_seq ?_ | refine cg_region ?_ | refine rg_nil ?_ | refine eg_then ?_ | refine qsp ?_ | refine cg_cond_false rfl ?_ | refine cg_skip ?_ | refine cg_ret ?_)
        refine eg_return3 rfl rfl rfl rfl ?_
        rw [hlk, if_pos (by simpa using q9)]; rfl
      · repeat (first | refine cg_seq ?_ | refine cg_region ?_ | refine rg_nil ?_ | refine eg_then ?_ | refine qsp ?_ | refine cg_cond_true rfl ?_ | refine cg_ret ?_ | refine eg_then_ret ?_)
        refine eg_return3 rfl rfl rfl rfl ?_
        rw [hlk, if_neg (by simpa using q9)]; rfl
end Go.Wm

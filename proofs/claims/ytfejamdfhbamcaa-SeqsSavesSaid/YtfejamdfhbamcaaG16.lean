/-
  Producers: whether they are alike, and whether they are few. Conditions: that what is handed in reads as data.
-/
import Derived.Test.YtfejamdfhbamcaaG15
set_option linter.all false
namespace Go.Wm
open Go.RowKit Go.Proofs
attribute [local irreducible] RG CG EG WA Loc Det Alc CT Exit.then Exit.inBlock Code.wp bodyPost
/-- The bytes of records. -/
def bytesR (l : List Rec) : Nat := (l.map fun r => r.key.size + r.val.size).sum
def fewB (b : Batch) : Bool := decide (bytesR b.recs ≤ 20000) && decide (b.recs.length ≤ 100)
def Short (b : Batch) : Prop := ∀ r ∈ b.recs, r.key.size ≤ reachBytes ∧ r.val.size ≤ reachBytes

set_option maxHeartbeats 4000000 in
theorem samePd_ct {k : PH} {a b : Option Addr} {c d : Nat} {xs ys : List ProdT} (hx : Sl tProdT k a c xs) (hy : Sl tProdT k b d ys) : CT Try.prog 26 #[.slice a xs.length c, .slice b ys.length d] k (fun _ v => v = .bool (decide (xs = ys))) := by
  refine ct_of_body (l := [_, _]) Try.func26 rfl Try.ntmps26 (by simp) (fun _ _ _ _ h => h) fun F hF0 hFm => ?_
  have b1 := hx.cap; have b2 := hx.max; have b3 := hy.cap; have b4 := hy.max; unfold maxLen at b2 b4
  repeat (first | refine cg_seq ?_ | refine cg_region ?_ | refine rg_nil ?_ | refine eg_then ?_ | refine qsp ?_ | refine qsn ?_)
  cases q1 : ((xs.length : Int) != (ys.length : Int))
  case true =>
    have : xs.length ≠ ys.length := by simp at q1; omega
    repeat (first | refine cg_seq ?_ | refine cg_region ?_ | refine rg_nil ?_ | refine eg_then ?_ | refine qsp ?_ | refine cg_cond_true rfl ?_ | refine cg_ret ?_ | refine eg_then_ret ?_)
    exact eg_return rfl rfl (by rw [decide_eq_false (fun e => this (by rw [e]))])
  have hl : xs.length = ys.length := by simp at q1; omega
  repeat (first | refine cg_seq ?_ | refine cg_region ?_ | refine rg_nil ?_ | refine eg_then ?_ | refine qsp ?_ | refine cg_cond_false rfl ?_ | refine cg_skip ?_ | refine cg_block ?_)
  refine cg_loop (fun (j : Nat) e k' => k' = k ∧ j ≤ xs.length ∧ (∀ n, n < j → xs[n]? = ys[n]?) ∧ e = [(0, .is (.slice a xs.length c)), (1, .is (.slice b ys.length d)), (5, .is (.int .i64 (j : Int)))])
    (fun j => xs.length - j) 0 ⟨rfl, Nat.zero_le _, fun n hn => by omega, rfl⟩ ⟨rfl, rfl, rfl, trivial⟩ ?_
  rintro j e k1 ⟨rfl, hj, hsame, rfl⟩
  repeat (first | refine cg_seq ?_ | refine cg_region ?_ | refine rg_nil ?_ | refine eg_then ?_ | refine qsp ?_ | refine qsn ?_)
  refine cg_cond rfl (fun hc => ?_) (fun hc => ?_)
  rotate_left
  · have hjl : j = xs.length := by have := of_decide_eq_false hc; omega
    repeat (first | refine cg_seq ?_ | refine cg_region ?_ | refine rg_nil ?_ | refine eg_then ?_ | refine qsp ?_ | refine cg_ret ?_ | refine cg_exit ?_ | refine eg_then_exit ?_ | refine eg_in_exit ?_)
    refine eg_return rfl rfl ?_
    have : xs = ys := by
      apply List.ext_getElem?
      intro n
      by_cases hn : n < j
      · exact hsame n hn
      · rw [List.getElem?_eq_none (by omega), List.getElem?_eq_none (by omega)]
    rw [decide_eq_true this]
  have hjlt : j < xs.length := by have := of_decide_eq_true hc; omega
  have hjy : j < ys.length := by omega
  obtain ⟨bx, ox, cx, rfl, ⟨a0, c0, rfl, hsx, _⟩, hcx⟩ := hx.el j xs[j] (List.getElem?_eq_getElem hjlt)
  obtain ⟨by', oy, cy, rfl, ⟨a1, c1, rfl, hsy, _⟩, hcy⟩ := hy.el j ys[j] (List.getElem?_eq_getElem hjy)
  have hne : xs[j] ≠ ys[j] → xs ≠ ys := fun h e => h (by subst e; rfl)
  have hgx := List.getElem?_eq_getElem hjlt
  have hgy := List.getElem?_eq_getElem hjy
  generalize xs[j] = p at hsx hcx hne hgx
  generalize ys[j] = r at hsy hcy hne hgy
  have d1 := hsx.cap; have d2 := hsx.max; have d3 := hsy.cap; have d4 := hsy.max; unfold maxLen at d2 d4
  obtain ⟨x0, x1, x2⟩ := ProdT.parts hcx
  obtain ⟨y0, y1, y2⟩ := ProdT.parts hcy
  repeat (first | refine cg_seq ?_ | refine eg_then ?_ | refine cg_skip ?_ | refine cg_block ?_)
  refine cg_any (by kernel_rfl) rfl ?_
  repeat (first | refine qwp ?_ | refine qwi ?_ | refine qwl ?_ | refine qwf ?_)
  cases r1 : (p.pid != r.pid)
  case true =>
    have h : p ≠ r := fun e => by rw [e] at r1; simp at r1
    repeat (first | refine qwp ?_ | refine qwo ?_ | (refine wn rfl ?_; refine eg_then ?_))
    repeat (first | refine cg_seq ?_ | refine cg_region ?_ | refine rg_nil ?_ | refine eg_then ?_ | refine qsp ?_ | refine cg_cond_true rfl ?_ | refine cg_ret ?_ | refine eg_then_ret ?_ | refine eg_in_ret ?_)
    exact eg_return rfl rfl (by rw [decide_eq_false (hne h)])
  have r1 : p.pid = r.pid := by simpa using r1
  repeat (first | refine qwp ?_ | refine qwi ?_ | refine qwl ?_ | refine qwf ?_)
  cases r2 : (p.gen != r.gen)
  case true =>
    have h : p ≠ r := fun e => by rw [e] at r2; simp at r2
    repeat (first | refine qwp ?_ | refine qwo ?_ | (refine wn rfl ?_; refine eg_then ?_))
    repeat (first | refine cg_seq ?_ | refine cg_region ?_ | refine rg_nil ?_ | refine eg_then ?_ | refine qsp ?_ | refine cg_cond_true rfl ?_ | refine cg_ret ?_ | refine eg_then_ret ?_ | refine eg_in_ret ?_)
    exact eg_return rfl rfl (by rw [decide_eq_false (hne h)])
  have r2 : p.gen = r.gen := by simpa using r2
  repeat (first | refine qwp ?_ | refine qwn ?_ | refine qwi ?_ | refine qwl ?_ | refine qwf ?_ | (refine wn rfl ?_; refine eg_then ?_))
  cases r3 : ((p.did.length : Int) != (r.did.length : Int))
  case true =>
    have h : p ≠ r := fun e => by rw [e] at r3; simp at r3
    skip
    repeat (first | refine cg_seq ?_ | refine cg_region ?_ | refine rg_nil ?_ | refine eg_then ?_ | refine qsp ?_ | refine cg_cond_true rfl ?_ | refine cg_ret ?_ | refine eg_then_ret ?_ | refine eg_in_ret ?_)
    exact eg_return rfl rfl (by rw [decide_eq_false (hne h)])
  have hld : p.did.length = r.did.length := by simp at r3; omega
  skip
  repeat (first | refine cg_seq ?_ | refine cg_region ?_ | refine rg_nil ?_ | refine eg_then ?_ | refine qsp ?_ | refine cg_cond_false rfl ?_ | refine cg_skip ?_ | refine cg_block ?_)
  refine cg_loop (fun (i : Nat) e k' => k' = k1 ∧ i ≤ p.did.length ∧ (∀ n, n < i → p.did[n]? = r.did[n]?) ∧ e = [(0, .is (.slice (some ⟨bx, ox, none⟩) xs.length c)), (1, .is (.slice (some ⟨by', oy, none⟩) ys.length d)), (5, .is (.int .i64 (j : Int))), (6, .is (.int .i64 (i : Int)))])
    (fun i => p.did.length - i) 0 ⟨rfl, Nat.zero_le _, fun n hn => by omega, rfl⟩ ⟨rfl, rfl, rfl, rfl, trivial⟩ ?_
  rintro i e k2 ⟨rfl, hi, hsd, rfl⟩
  repeat (first | refine cg_seq ?_ | refine cg_region ?_ | refine rg_nil ?_ | refine eg_then ?_ | refine qsp ?_ | refine qsn ?_ | refine qsi ?_ | refine qsl ?_ | refine qsf ?_)
  refine cg_cond rfl (fun hc => ?_) (fun hc => ?_)
  rotate_left
  · have hil : i = p.did.length := by have := of_decide_eq_false hc; omega
    have hpr : p = r := by
      have : p.did = r.did := by
        apply List.ext_getElem?
        intro n
        by_cases hn : n < i
        · exact hsd n hn
        · rw [List.getElem?_eq_none (by omega), List.getElem?_eq_none (by omega)]
      cases p; cases r; simp_all
    repeat (first | refine cg_region ?_ | refine rg_nil ?_ | refine eg_then ?_ | refine qsp ?_ | refine qsa ?_ | refine eg_in_normal ?_ | refine cg_exit ?_ | refine eg_then_exit ?_ | refine eg_in_exit ?_)
    refine eg_again (j + 1) _ ⟨rfl, hjlt, fun n hn => ?_, rfl⟩ (by omega) ⟨rfl, rfl, rfl, trivial⟩
    by_cases h : n < j
    · exact hsame n h
    · have : n = j := by omega
      subst this
      rw [hgx, hgy, hpr]
  have hilt : i < p.did.length := by have := of_decide_eq_true hc; omega
  have hily : i < r.did.length := by omega
  obtain ⟨bu, ou, cu, rfl, ⟨rfl, _⟩, hcu⟩ := hsx.el i p.did[i] (List.getElem?_eq_getElem hilt)
  obtain ⟨bv, ov, cv, rfl, ⟨rfl, _⟩, hcv⟩ := hsy.el i r.did[i] (List.getElem?_eq_getElem hily)
  repeat (first | refine cg_seq ?_ | refine eg_then ?_ | refine cg_skip ?_ | refine cg_block ?_)
  refine cg_any (by kernel_rfl) rfl ?_
  repeat (first | refine qwp ?_ | refine qwi ?_ | refine qwl ?_ | refine qwg ?_ | refine qwf ?_ | refine qwX ?_ | (refine wn rfl ?_; refine eg_then ?_))
  by_cases r4 : p.did[i] = r.did[i]
  · rw [decide_eq_true r4]
    skip
    repeat (first | refine cg_region ?_ | refine rg_nil ?_ | refine eg_then ?_ | refine qsp ?_ | refine qsa ?_ | refine cg_cond_false rfl ?_ | refine cg_skip ?_ | refine eg_in_normal ?_)
    refine eg_again (i + 1) _ ⟨rfl, hilt, fun n hn => ?_, rfl⟩ (by omega) ⟨rfl, rfl, rfl, rfl, trivial⟩
    by_cases h : n < i
    · exact hsd n h
    · have : n = i := by omega
      subst this
      rw [List.getElem?_eq_getElem hilt, List.getElem?_eq_getElem hily, r4]
  · rw [decide_eq_false r4]
    skip
    repeat (first | refine cg_seq ?_ | refine cg_region ?_ | refine rg_nil ?_ | refine eg_then ?_ | refine qsp ?_ | refine cg_cond_true rfl ?_ | refine cg_ret ?_ | refine eg_then_ret ?_ | refine eg_in_ret ?_)
    exact eg_return rfl rfl (by rw [decide_eq_false (hne (fun e => r4 (by subst e; rfl)))])
def fewPB (xs : List ProdT) : Bool := !(decide (100 < xs.length) && decide (xs.length ≤ 1024)) && (xs.take 100).all fun p => decide (p.did.length ≤ 20)
set_option maxHeartbeats 1000000 in
theorem fewPd_ct {k : PH} {a : Option Addr} {c : Nat} {xs : List ProdT} (hx : Sl tProdT k a c xs) : CT Try.prog 30 #[.slice a xs.length c] k (fun _ v => v = .bool (fewPB xs)) := by
  refine ct_of_body (l := [_]) Try.func30 rfl Try.ntmps30 (by simp) (fun _ _ _ _ h => h) fun F hF0 hFm => ?_
  have b1 := hx.cap; have b2 := hx.max; unfold maxLen at b2
  repeat (first | refine cg_seq ?_ | refine cg_region ?_ | refine rg_nil ?_ | refine eg_then ?_ | refine qsp ?_ | refine qsn ?_)
  cases q1 : decide ((xs.length : Int) > 100)
  case true =>
    repeat (first | refine rg_nil ?_ | refine eg_then ?_ | refine qsp ?_ | refine qsn ?_)
    cases q2 : decide ((xs.length : Int) ≤ 1024)
    case true =>
      have h1 := of_decide_eq_true q1
      have h2 := of_decide_eq_true q2
      repeat (first | refine cg_seq ?_ | refine cg_region ?_ | refine rg_nil ?_ | refine eg_then ?_ | refine qsp ?_ | refine cg_cond_true rfl ?_ | refine cg_ret ?_ | refine eg_then_ret ?_)
      refine eg_return rfl rfl ?_
      unfold fewPB
      rw [show decide (100 < xs.length) = true by simp; omega, show decide (xs.length ≤ 1024) = true by simp; omega]; rfl
    have hf : (!(decide (100 < xs.length) && decide (xs.length ≤ 1024))) = true := by
      have := of_decide_eq_false q2
      simp; omega
    repeat (first | refine cg_seq ?_ | refine cg_region ?_ | refine rg_nil ?_ | refine eg_then ?_ | refine qsp ?_ | refine cg_cond_false rfl ?_ | refine cg_skip ?_ | refine cg_block ?_)
    skip
    refine cg_loop (fun (j : Nat) e k' => k' = k ∧ j ≤ xs.length ∧ j ≤ 100 ∧ (∀ p ∈ xs.take j, p.did.length ≤ 20) ∧ e = [(0, .is (.slice a xs.length c)), (3, .is (.int .i64 (j : Int)))])
      (fun j => 100 - j) 0 ⟨rfl, Nat.zero_le _, by omega, by simp, rfl⟩ ⟨rfl, rfl, trivial⟩ ?_
    rintro j e k1 ⟨rfl, hj, hj1, hall, rfl⟩
    repeat (first | refine cg_seq ?_ | refine cg_region ?_ | refine qsp ?_ | refine qsn ?_)
    cases p1 : decide ((j : Int) < (xs.length : Int))
    case false =>
      have hjl : j = xs.length := by have := of_decide_eq_false p1; omega
      repeat (first | refine cg_seq ?_ | refine cg_region ?_ | refine rg_nil ?_ | refine eg_then ?_ | refine qsp ?_ | refine qso ?_ | refine cg_cond_false rfl ?_ | refine cg_ret ?_ | refine cg_exit ?_ | refine eg_then_exit ?_ | refine eg_in_exit ?_)
      refine eg_return rfl rfl ?_
      unfold fewPB; rw [hf]
      rw [show (xs.take 100).all (fun p => decide (p.did.length ≤ 20)) = true from List.all_eq_true.2 fun p hp => decide_eq_true (hall p (by rw [hjl, List.take_length]; exact List.mem_of_mem_take hp))]; rfl
    repeat (first | refine rg_nil ?_ | refine eg_then ?_ | refine qsp ?_)
    cases p2 : decide ((j : Int) < 100)
    case false =>
      have hjl : j = 100 := by have := of_decide_eq_false p2; omega
      repeat (first | refine cg_seq ?_ | refine cg_region ?_ | refine rg_nil ?_ | refine eg_then ?_ | refine qsp ?_ | refine cg_cond_false rfl ?_ | refine cg_ret ?_ | refine cg_exit ?_ | refine eg_then_exit ?_ | refine eg_in_exit ?_)
      refine eg_return rfl rfl ?_
      unfold fewPB; rw [hf]
      rw [show (xs.take 100).all (fun p => decide (p.did.length ≤ 20)) = true from List.all_eq_true.2 fun p hp => decide_eq_true (hall p (by rw [hjl]; exact hp))]; rfl
    have hlt : j < xs.length := by have := of_decide_eq_true p1; omega
    have hlt2 : j < 100 := by have := of_decide_eq_true p2; omega
    obtain ⟨bx, ox, cx, rfl, ⟨a0, c0, rfl, hsx, _⟩, hcx⟩ := hx.el j xs[j] (List.getElem?_eq_getElem hlt)
    have d1 := hsx.cap; have d2 := hsx.max; unfold maxLen at d2
    obtain ⟨x0, x1, x2⟩ := ProdT.parts hcx
    repeat (first | refine cg_seq ?_ | refine cg_region ?_ | refine rg_nil ?_ | refine eg_then ?_ | refine qsp ?_ | refine qsn ?_ | refine qsi ?_ | refine qsl ?_ | refine qsf ?_ | refine cg_cond_true rfl ?_ | refine cg_skip ?_ | refine cg_block ?_)
    cases p3 : decide ((xs[j].did.length : Int) > 20)
    case true =>
      have : ¬ xs[j].did.length ≤ 20 := by have := of_decide_eq_true p3; omega
      repeat (first | refine cg_seq ?_ | refine cg_region ?_ | refine rg_nil ?_ | refine eg_then ?_ | refine qsp ?_ | refine cg_cond_true rfl ?_ | refine cg_ret ?_ | refine eg_then_ret ?_ | refine eg_in_ret ?_)
      refine eg_return rfl rfl ?_
      unfold fewPB
      rw [show (xs.take 100).all (fun p => decide (p.did.length ≤ 20)) = false from List.all_eq_false.2 ⟨xs[j], List.mem_take_iff_getElem.2 ⟨j, by omega, rfl⟩, by simpa using this⟩]; simp
    have h20 : xs[j].did.length ≤ 20 := by have := of_decide_eq_false p3; omega
    repeat (first | refine cg_region ?_ | refine rg_nil ?_ | refine eg_then ?_ | refine qsp ?_ | refine qsa ?_ | refine cg_cond_false rfl ?_ | refine cg_skip ?_ | refine eg_in_normal ?_)
    refine eg_again (j + 1) _ ⟨rfl, hlt, hlt2, fun p hp => ?_, rfl⟩ (by omega) ⟨rfl, rfl, trivial⟩
    rw [List.take_succ_eq_append_getElem hlt] at hp
    rcases List.mem_append.1 hp with hp | hp
    · exact hall p hp
    · simp at hp; subst hp; exact h20
  have hf : (!(decide (100 < xs.length) && decide (xs.length ≤ 1024))) = true := by
    have := of_decide_eq_false q1
    simp; omega
  repeat (first | refine cg_seq ?_ | refine cg_region ?_ | refine rg_nil ?_ | refine eg_then ?_ | refine qsp ?_ | refine qso ?_ | refine cg_cond_false rfl ?_ | refine cg_skip ?_ | refine cg_block ?_)
  skip
  refine cg_loop (fun (j : Nat) e k' => k' = k ∧ j ≤ xs.length ∧ j ≤ 100 ∧ (∀ p ∈ xs.take j, p.did.length ≤ 20) ∧ e = [(0, .is (.slice a xs.length c)), (3, .is (.int .i64 (j : Int)))])
    (fun j => 100 - j) 0 ⟨rfl, Nat.zero_le _, by omega, by simp, rfl⟩ ⟨rfl, rfl, trivial⟩ ?_
  rintro j e k1 ⟨rfl, hj, hj1, hall, rfl⟩
  repeat (first | refine cg_seq ?_ | refine cg_region ?_ | refine qsp ?_ | refine qsn ?_)
  cases p1 : decide ((j : Int) < (xs.length : Int))
  case false =>
    have hjl : j = xs.length := by have := of_decide_eq_false p1; omega
    repeat (first | refine cg_seq ?_ | refine cg_region ?_ | refine rg_nil ?_ | refine eg_then ?_ | refine qsp ?_ | refine qso ?_ | refine cg_cond_false rfl ?_ | refine cg_ret ?_ | refine cg_exit ?_ | refine eg_then_exit ?_ | refine eg_in_exit ?_)
    refine eg_return rfl rfl ?_
    unfold fewPB; rw [hf]
    rw [show (xs.take 100).all (fun p => decide (p.did.length ≤ 20)) = true from List.all_eq_true.2 fun p hp => decide_eq_true (hall p (by rw [hjl, List.take_length]; exact List.mem_of_mem_take hp))]; rfl
  repeat (first | refine rg_nil ?_ | refine eg_then ?_ | refine qsp ?_)
  cases p2 : decide ((j : Int) < 100)
  case false =>
    have hjl : j = 100 := by have := of_decide_eq_false p2; omega
    repeat (first | refine cg_seq ?_ | refine cg_region ?_ | refine rg_nil ?_ | refine eg_then ?_ | refine qsp ?_ | refine cg_cond_false rfl ?_ | refine cg_ret ?_ | refine cg_exit ?_ | refine eg_then_exit ?_ | refine eg_in_exit ?_)
    refine eg_return rfl rfl ?_
    unfold fewPB; rw [hf]
    rw [show (xs.take 100).all (fun p => decide (p.did.length ≤ 20)) = true from List.all_eq_true.2 fun p hp => decide_eq_true (hall p (by rw [hjl]; exact hp))]; rfl
  have hlt : j < xs.length := by have := of_decide_eq_true p1; omega
  have hlt2 : j < 100 := by have := of_decide_eq_true p2; omega
  obtain ⟨bx, ox, cx, rfl, ⟨a0, c0, rfl, hsx, _⟩, hcx⟩ := hx.el j xs[j] (List.getElem?_eq_getElem hlt)
  have d1 := hsx.cap; have d2 := hsx.max; unfold maxLen at d2
  obtain ⟨x0, x1, x2⟩ := ProdT.parts hcx
  repeat (first | refine cg_seq ?_ | refine cg_region ?_ | refine rg_nil ?_ | refine eg_then ?_ | refine qsp ?_ | refine qsn ?_ | refine qsi ?_ | refine qsl ?_ | refine qsf ?_ | refine cg_cond_true rfl ?_ | refine cg_skip ?_ | refine cg_block ?_)
  cases p3 : decide ((xs[j].did.length : Int) > 20)
  case true =>
    have : ¬ xs[j].did.length ≤ 20 := by have := of_decide_eq_true p3; omega
    repeat (first | refine cg_seq ?_ | refine cg_region ?_ | refine rg_nil ?_ | refine eg_then ?_ | refine qsp ?_ | refine cg_cond_true rfl ?_ | refine cg_ret ?_ | refine eg_then_ret ?_ | refine eg_in_ret ?_)
    refine eg_return rfl rfl ?_
    unfold fewPB
    rw [show (xs.take 100).all (fun p => decide (p.did.length ≤ 20)) = false from List.all_eq_false.2 ⟨xs[j], List.mem_take_iff_getElem.2 ⟨j, by omega, rfl⟩, by simpa using this⟩]; simp
  have h20 : xs[j].did.length ≤ 20 := by have := of_decide_eq_false p3; omega
  repeat (first | refine cg_region ?_ | refine rg_nil ?_ | refine eg_then ?_ | refine qsp ?_ | refine qsa ?_ | refine cg_cond_false rfl ?_ | refine cg_skip ?_ | refine eg_in_normal ?_)
  refine eg_again (j + 1) _ ⟨rfl, hlt, hlt2, fun p hp => ?_, rfl⟩ (by omega) ⟨rfl, rfl, trivial⟩
  rw [List.take_succ_eq_append_getElem hlt] at hp
  rcases List.mem_append.1 hp with hp | hp
  · exact hall p hp
  · simp at hp; subst hp; exact h20
end Go.Wm

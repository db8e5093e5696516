/-
  Producers: whether they are alike, and whether they are few. Conditions: that what is handed in reads as data.
-/
import Derived.Test.YtfejamdfhbamcaaG15
set_option linter.all false
namespace Go.Wm
open Go.RowKit Go.Proofs
attribute [local irreducible] RG CG EG WA Loc Det Alc CT Exit.then Exit.inBlock Code.wp bodyPost
/-- The bytes of records. -/
def bytesR (l : List Rec) : Nat := (l.map fun r => r.key.size + r.val.size).sum
theorem bytesR_succ {l : List Rec} {i : Nat} (h : i < l.length) : bytesR (l.take (i + 1)) = bytesR (l.take i) + (l[i].key.size + l[i].val.size) := by
  unfold bytesR
  rw [List.take_succ_eq_append_getElem h, List.map_append, List.sum_append]; simp
theorem bytesR_take (l : List Rec) (i : Nat) : bytesR (l.take i) ≤ bytesR l := by
  have h : bytesR l = bytesR (l.take i ++ l.drop i) := by rw [List.take_append_drop]
  rw [h]
  unfold bytesR
  rw [List.map_append, List.sum_append]; omega
def fewB (b : Batch) : Bool := decide (bytesR b.recs ≤ 20000) && decide (b.recs.length ≤ 100)
def Short (b : Batch) : Prop := ∀ r ∈ b.recs, r.key.size ≤ reachBytes ∧ r.val.size ≤ reachBytes

set_option maxHeartbeats 1000000 in
theorem fewBatch_ct {k : PH} {b : Batch} {a : Option Addr} {c : Nat} (hl : Sl tRec k a c b.recs) (hsh : Short b) :
    CT Try.prog 64 #[.agg (b.cs a c).toArray] k (fun _ v => v = .bool (fewB b)) := by
  refine ct_of_body (l := [_]) Try.func64 rfl Try.ntmps64 (by simp) (fun _ _ _ _ h => h) fun F hF0 hFm => ?_
  have b1 := hl.cap; have b2 := hl.max; unfold maxLen at b2
  repeat (first | refine cg_seq ?_ | refine cg_region ?_)
  refine rb rfl rfl rfl rfl (a_box rfl rfl) ?_; intro b1' k1 hb1 hN1 hle1 hk1
  have c1 := cells_at (vs := b.cs a c) hk1 rfl
  obtain ⟨_, _, _, _, _, _, _, _, _, p9⟩ := Batch.parts c1
  repeat (first | refine cg_seq ?_ | refine cg_region ?_ | refine rg_nil ?_ | refine eg_then ?_ | refine qsp ?_ | refine qsn ?_ | refine qsl ?_ | refine qsf ?_ | refine cg_block ?_)
  refine cg_loop (fun (i : Nat) e k' => Le k1 k' ∧ i ≤ b.recs.length ∧ bytesR (b.recs.take i) ≤ 20000 ∧ ∃ m : Int, m = (bytesR (b.recs.take i) : Int) ∧ e = [(1, .is (.pointer (some ⟨b1', 0, none⟩))), (3, .is (.int .i64 m)), (7, .is (.slice a b.recs.length c)), (8, .is (.int .i64 (b.recs.length : Int))), (9, .is (.int .i64 (i : Int)))])
    (fun i => b.recs.length - i) 0 ⟨Le.refl _, Nat.zero_le _, by simp [bytesR], 0, by simp [bytesR], rfl⟩ ⟨rfl, rfl, rfl, rfl, rfl, trivial⟩ ?_
  rintro i e k2 ⟨hle, hi, hno, m, hm, rfl⟩
  repeat (first | refine cg_seq ?_ | refine cg_region ?_ | refine rg_nil ?_ | refine eg_then ?_ | refine qsp ?_)
  refine cg_cond rfl (fun h => ?_) (fun h => ?_)
  · have hlt : i < b.recs.length := by simpa using h
    obtain ⟨bx, ox, cx, rfl, ⟨rfl, hok⟩, hcx⟩ := (hl.le (hle1.trans hle)).el i b.recs[i] (List.getElem?_eq_getElem hlt)
    obtain ⟨sh1, sh2⟩ := hsh b.recs[i] (List.getElem_mem hlt)
    unfold reachBytes at sh1 sh2
    have hs := bytesR_succ hlt
    repeat (first | refine cg_seq ?_ | refine cg_region ?_ | refine eg_then ?_ | refine qsi ?_ | refine qsg ?_ | refine cg_skip ?_ | refine cg_block ?_)
    refine rb rfl rfl rfl rfl (a_alloc rfl) ?_; intro b5 k5 hb5 hN5 hle5 hk5
    skip
    refine rw1 rfl rfl rfl rfl rfl rfl rfl hk5 rfl (.inl hN5) ?_ ?_; (simp [Did.vs, ProdT.cs, Rec.vs, Batch.cs, Tp.vs, Member.cs, Group.cs, Value.oneCell']); intro k6 ht6 hk6
    have c6 := cells_at (vs := b.recs[i].vs) hk6 rfl
    have hle6 : Le k2 k6 := ht6 k2 hle5 hb5
    obtain ⟨p0, p1, p2, p3, p4⟩ := Rec.parts c6
    repeat (first | refine cg_seq ?_ | refine cg_region ?_ | refine rg_nil ?_ | refine eg_then ?_ | refine qsp ?_ | refine qsl ?_ | refine qsf ?_)
    refine rs rfl rfl (loc_det rfl (d_len_str rfl rfl)) ?_
    repeat (first | refine qsl ?_ | refine qsf ?_)
    refine rs rfl rfl (loc_det rfl (d_len_str rfl rfl)) ?_
    repeat (first | refine cg_seq ?_ | refine cg_region ?_ | refine rg_nil ?_ | refine eg_then ?_ | refine qsp ?_ | refine qsa ?_)
    refine cg_cond rfl (fun h2 => ?_) (fun h2 => ?_)
    · repeat (first | refine cg_seq ?_ | refine cg_region ?_ | refine rg_nil ?_ | refine eg_then ?_ | refine qsp ?_ | refine cg_ret ?_ | refine eg_then_ret ?_ | refine eg_in_ret ?_)
      refine eg_return rfl rfl ?_
      have := bytesR_take b.recs (i + 1)
      have hgt : ¬ bytesR b.recs ≤ 20000 := by simp at h2; omega
      simp [fewB, hgt]
    · repeat (first | refine cg_region ?_ | refine rg_nil ?_ | refine eg_then ?_ | refine qsp ?_ | refine qsa ?_ | refine cg_skip ?_ | refine eg_in_normal ?_)
      refine eg_again (i + 1) _ ⟨hle.trans hle6, hlt, by simp at h2; omega, _, by rw [hs, hm]; push_cast; rfl, rfl⟩ (by omega) ⟨rfl, rfl, rfl, rfl, rfl, trivial⟩
  · have hil : i = b.recs.length := by simp at h; omega
    rw [hil, List.take_length] at hno
    have c2 := c1.le hle
    obtain ⟨_, _, _, _, _, _, _, _, _, q9⟩ := Batch.parts c2
    repeat (first | refine cg_seq ?_ | refine cg_region ?_ | refine rg_nil ?_ | refine eg_then ?_ | refine qsp ?_ | refine qsn ?_ | refine qsl ?_ | refine qsf ?_ | refine cg_ret ?_ | refine cg_exit ?_ | refine eg_then_exit ?_ | refine eg_in_exit ?_)
    refine eg_return rfl rfl ?_
    simp [fewB, hno]
    omega
set_option maxHeartbeats 4000000 in
theorem samePd_ct {k : PH} {a b : Option Addr} {c d : Nat} {xs ys : List ProdT} (hx : Sl tProdT k a c xs) (hy : Sl tProdT k b d ys) : CT Try.prog 26 #[.slice a xs.length c, .slice b ys.length d] k (fun _ v => v = .bool (decide (xs = ys))) := by
  refine ct_of_body (l := [_, _]) Try.func26 rfl Try.ntmps26 (by simp) (fun _ _ _ _ h => h) fun F hF0 hFm => ?_
  have b1 := hx.cap; have b2 := hx.max; have b3 := hy.cap; have b4 := hy.max; unfold maxLen at b2 b4
  repeat (first | refine cg_seq ?_ | refine cg_region ?_ | refine rg_nil ?_ | refine eg_then ?_ | refine qsp ?_ | refine qsn ?_)
  cases q1 : ((xs.length : Int) != (ys.length : Int))
  case true =>
    have : xs.length ≠ ys.length := by simp at q1; omega
    repeat (first | refine cg_seq ?_ | refine cg_region ?_ | refine rg_nil ?_ | refine eg_then ?_ | refine qsp ?_ | refine cg_cond_true rfl ?_ | refine cg_ret ?_ | refine eg_then_ret ?_)
    exact eg_return rfl rfl (by rw [decide_eq_false (fun e => this (by rw [e]))])
  have hl : xs.length = ys.length := by simp at q1; omega
  repeat (first | refine cg_seq ?_ | refine cg_region ?_ | refine rg_nil ?_ | refine eg_then ?_ | refine qsp ?_ | refine cg_cond_false rfl ?_ | refine cg_skip ?_ | refine cg_block ?_)
  refine cg_loop (fun (j : Nat) e k' => k' = k ∧ j ≤ xs.length ∧ (∀ n, n < j → xs[n]? = ys[n]?) ∧ e = [(0, .is (.slice a xs.length c)), (1, .is (.slice b ys.length d)), (5, .is (.int .i64 (j : Int)))])
    (fun j => xs.length - j) 0 ⟨rfl, Nat.zero_le _, fun n hn => by omega, rfl⟩ ⟨rfl, rfl, rfl, trivial⟩ ?_
  rintro j e k1 ⟨rfl, hj, hsame, rfl⟩
  repeat (first | refine cg_seq ?_ | refine cg_region ?_ | refine rg_nil ?_ | refine eg_then ?_ | refine qsp ?_ | refine qsn ?_)
  refine cg_cond rfl (fun hc => ?_) (fun hc => ?_)
  rotate_left
  · have hjl : j = xs.length := by have := of_decide_eq_false hc; omega
    repeat (first | refine cg_seq ?_ | refine cg_region ?_ | refine rg_nil ?_ | refine eg_then ?_ | refine qsp ?_ | refine cg_ret ?_ | refine cg_exit ?_ | refine eg_then_exit ?_ | refine eg_in_exit ?_)
    refine eg_return rfl rfl ?_
    have : xs = ys := by
      apply List.ext_getElem?
      intro n
      by_cases hn : n < j
      · exact hsame n hn
      · rw [List.getElem?_eq_none (by omega), List.getElem?_eq_none (by omega)]
    rw [decide_eq_true this]
  have hjlt : j < xs.length := by have := of_decide_eq_true hc; omega
  have hjy : j < ys.length := by omega
  obtain ⟨bx, ox, cx, rfl, ⟨a0, c0, rfl, hsx, _⟩, hcx⟩ := hx.el j xs[j] (List.getElem?_eq_getElem hjlt)
  obtain ⟨by', oy, cy, rfl, ⟨a1, c1, rfl, hsy, _⟩, hcy⟩ := hy.el j ys[j] (List.getElem?_eq_getElem hjy)
  have hne : xs[j] ≠ ys[j] → xs ≠ ys := fun h e => h (by subst e; rfl)
  have hgx := List.getElem?_eq_getElem hjlt
  have hgy := List.getElem?_eq_getElem hjy
  generalize xs[j] = p at hsx hcx hne hgx
  generalize ys[j] = r at hsy hcy hne hgy
  have d1 := hsx.cap; have d2 := hsx.max; have d3 := hsy.cap; have d4 := hsy.max; unfold maxLen at d2 d4
  obtain ⟨x0, x1, x2⟩ := ProdT.parts hcx
  obtain ⟨y0, y1, y2⟩ := ProdT.parts hcy
  repeat (first | refine cg_seq ?_ | refine eg_then ?_ | refine cg_skip ?_ | refine cg_block ?_)
  refine cg_any (by kernel_rfl) rfl ?_
  repeat (first | refine qwp ?_ | refine qwi ?_ | refine qwl ?_ | refine qwf ?_)
  cases r1 : (p.pid != r.pid)
  case true =>
    have h : p ≠ r := fun e => by rw [e] at r1; simp at r1
    repeat (first | refine qwp ?_ | refine qwo ?_ | (refine wn rfl ?_; refine eg_then ?_))
    repeat (first | refine cg_seq ?_ | refine cg_region ?_ | refine rg_nil ?_ | refine eg_then ?_ | refine qsp ?_ | refine cg_cond_true rfl ?_ | refine cg_ret ?_ | refine eg_then_ret ?_ | refine eg_in_ret ?_)
    exact eg_return rfl rfl (by rw [decide_eq_false (hne h)])
  have r1 : p.pid = r.pid := by simpa using r1
  repeat (first | refine qwp ?_ | refine qwi ?_ | refine qwl ?_ | refine qwf ?_)
  cases r2 : (p.gen != r.gen)
  case true =>
    have h : p ≠ r := fun e => by rw [e] at r2; simp at r2
    repeat (first | refine qwp ?_ | refine qwo ?_ | (refine wn rfl ?_; refine eg_then ?_))
    repeat (first | refine cg_seq ?_ | refine cg_region ?_ | refine rg_nil ?_ | refine eg_then ?_ | refine qsp ?_ | refine cg_cond_true rfl ?_ | refine cg_ret ?_ | refine eg_then_ret ?_ | refine eg_in_ret ?_)
    exact eg_return rfl rfl (by rw [decide_eq_false (hne h)])
  have r2 : p.gen = r.gen := by simpa using r2
  repeat (first | refine qwp ?_ | refine qwn ?_ | refine qwi ?_ | refine qwl ?_ | refine qwf ?_ | (refine wn rfl ?_; refine eg_then ?_))
  cases r3 : ((p.did.length : Int) != (r.did.length : Int))
  case true =>
    have h : p ≠ r := fun e => by rw [e] at r3; simp at r3
    skip
    repeat (first | refine cg_seq ?_ | refine cg_region ?_ | refine rg_nil ?_ | refine eg_then ?_ | refine qsp ?_ | refine cg_cond_true rfl ?_ | refine cg_ret ?_ | refine eg_then_ret ?_ | refine eg_in_ret ?_)
    exact eg_return rfl rfl (by rw [decide_eq_false (hne h)])
  have hld : p.did.length = r.did.length := by simp at r3; omega
  skip
  repeat (first | refine cg_seq ?_ | refine cg_region ?_ | refine rg_nil ?_ | refine eg_then ?_ | refine qsp ?_ | refine cg_cond_false rfl ?_ | refine cg_skip ?_ | refine cg_block ?_)
  refine cg_loop (fun (i : Nat) e k' => k' = k1 ∧ i ≤ p.did.length ∧ (∀ n, n < i → p.did[n]? = r.did[n]?) ∧ e = [(0, .is (.slice (some ⟨bx, ox, none⟩) xs.length c)), (1, .is (.slice (some ⟨by', oy, none⟩) ys.length d)), (5, .is (.int .i64 (j : Int))), (6, .is (.int .i64 (i : Int)))])
    (fun i => p.did.length - i) 0 ⟨rfl, Nat.zero_le _, fun n hn => by omega, rfl⟩ ⟨rfl, rfl, rfl, rfl, trivial⟩ ?_
  rintro i e k2 ⟨rfl, hi, hsd, rfl⟩
  repeat (first | refine cg_seq ?_ | refine cg_region ?_ | refine rg_nil ?_ | refine eg_then ?_ | refine qsp ?_ | refine qsn ?_ | refine qsi ?_ | refine qsl ?_ | refine qsf ?_)
  refine cg_cond rfl (fun hc => ?_) (fun hc => ?_)
  rotate_left
  · have hil : i = p.did.length := by have := of_decide_eq_false hc; omega
    have hpr : p = r := by
      have : p.did = r.did := by
        apply List.ext_getElem?
        intro n
        by_cases hn : n < i
        · exact hsd n hn
        · rw [List.getElem?_eq_none (by omega), List.getElem?_eq_none (by omega)]
      cases p; cases r; simp_all
    repeat (first | refine cg_region ?_ | refine rg_nil ?_ | refine eg_then ?_ | refine qsp ?_ | refine qsa ?_ | refine eg_in_normal ?_ | refine cg_exit ?_ | refine eg_then_exit ?_ | refine eg_in_exit ?_)
    refine eg_again (j + 1) _ ⟨rfl, hjlt, fun n hn => ?_, rfl⟩ (by omega) ⟨rfl, rfl, rfl, trivial⟩
    by_cases h : n < j
    · exact hsame n h
    · have : n = j := by omega
      subst this
      rw [hgx, hgy, hpr]
  have hilt : i < p.did.length := by have := of_decide_eq_true hc; omega
  have hily : i < r.did.length := by omega
  obtain ⟨bu, ou, cu, rfl, ⟨rfl, _⟩, hcu⟩ := hsx.el i p.did[i] (List.getElem?_eq_getElem hilt)
  obtain ⟨bv, ov, cv, rfl, ⟨rfl, _⟩, hcv⟩ := hsy.el i r.did[i] (List.getElem?_eq_getElem hily)
  repeat (first | refine cg_seq ?_ | refine eg_then ?_ | refine cg_skip ?_ | refine cg_block ?_)
  refine cg_any (by kernel_rfl) rfl ?_
  repeat (first | refine qwp ?_ | refine qwi ?_ | refine qwl ?_ | refine qwg ?_ | refine qwf ?_ | refine qwX ?_ | (refine wn rfl ?_; refine eg_then ?_))
  by_cases r4 : p.did[i] = r.did[i]
  · rw [decide_eq_true r4]
    skip
    repeat (first | refine cg_region ?_ | refine rg_nil ?_ | refine eg_then ?_ | refine qsp ?_ | refine qsa ?_ | refine cg_cond_false rfl ?_ | refine cg_skip ?_ | refine eg_in_normal ?_)
    refine eg_again (i + 1) _ ⟨rfl, hilt, fun n hn => ?_, rfl⟩ (by omega) ⟨rfl, rfl, rfl, rfl, trivial⟩
    by_cases h : n < i
    · exact hsd n h
    · have : n = i := by omega
      subst this
      rw [List.getElem?_eq_getElem hilt, List.getElem?_eq_getElem hily, r4]
  · rw [decide_eq_false r4]
    skip
    repeat (first | refine cg_seq ?_ | refine cg_region ?_ | refine rg_nil ?_ | refine eg_then ?_ | refine qsp ?_ | refine cg_cond_true rfl ?_ | refine cg_ret ?_ | refine eg_then_ret ?_ | refine eg_in_ret ?_)
    exact eg_return rfl rfl (by rw [decide_eq_false (hne (fun e => r4 (by subst e; rfl)))])
def fewPB (xs : List ProdT) : Bool := !(decide (100 < xs.length) && decide (xs.length ≤ 1024)) && (xs.take 100).all fun p => decide (p.did.length ≤ 20)
set_option maxHeartbeats 1000000 in
theorem fewOf_ct {k : PH} {a : Option Addr} {c : Nat} {l : List Batch} {m : Int} (hl : Sl tBatch k a c l) (hm : I64 m) (hsh : ∀ b ∈ l, Short b) : CT Try.prog 27 #[.slice a l.length c, .int .i64 m] k (fun _ v => ∃ r : Bool, v = .bool r ∧ (r = true → (l.length : Int) ≤ m)) := by
  refine ct_of_body (l := [_, _]) Try.func27 rfl Try.ntmps27 (by simp) (fun _ _ _ _ h => h) fun F hF0 hFm => ?_
  have b1 := hl.cap; have b2 := hl.max; unfold maxLen at b2
  unfold I64 at hm
  repeat (first | refine cg_seq ?_ | refine cg_region ?_ | refine rg_nil ?_ | refine eg_then ?_ | refine qsp ?_ | refine cg_block ?_)
  refine cg_loop (fun (j : Nat) e k' => k' = k ∧ j ≤ l.length ∧ e = [(0, .is (.slice a l.length c)), (1, .is (.int .i64 m)), (5, .is (.int .i64 (j : Int)))])
    (fun j => l.length - j) 0 ⟨rfl, Nat.zero_le _, rfl⟩ ⟨rfl, rfl, rfl, trivial⟩ ?_
  rintro j e k1 ⟨rfl, hj, rfl⟩
  repeat (first | refine cg_seq ?_ | refine cg_region ?_ | refine qsp ?_ | refine qsn ?_)
  cases p1 : decide ((j : Int) < (l.length : Int))
  case false =>
    repeat (first | refine cg_seq ?_ | refine cg_region ?_ | refine rg_nil ?_ | refine eg_then ?_ | refine qsp ?_ | refine qsn ?_ | refine qso ?_ | refine cg_cond_false rfl ?_ | refine cg_ret ?_ | refine cg_exit ?_ | refine eg_then_exit ?_ | refine eg_in_exit ?_)
    exact eg_return rfl rfl ⟨_, rfl, fun h => of_decide_eq_true h⟩
  repeat (first | refine rg_nil ?_ | refine eg_then ?_ | refine qsp ?_)
  cases p2 : decide ((j : Int) < m)
  case false =>
    repeat (first | refine cg_seq ?_ | refine cg_region ?_ | refine rg_nil ?_ | refine eg_then ?_ | refine qsp ?_ | refine qsn ?_ | refine cg_cond_false rfl ?_ | refine cg_ret ?_ | refine cg_exit ?_ | refine eg_then_exit ?_ | refine eg_in_exit ?_)
    exact eg_return rfl rfl ⟨_, rfl, fun h => of_decide_eq_true h⟩
  have hlt : j < l.length := by have := of_decide_eq_true p1; omega
  obtain ⟨bx, ox, cx, rfl, ⟨a0, c0, rfl, hsx, hbok⟩, hcx⟩ := hl.el j l[j] (List.getElem?_eq_getElem hlt)
  have hcx := hcx
  repeat (first | refine cg_seq ?_ | refine cg_region ?_ | refine eg_then ?_ | refine qsp ?_ | refine qsi ?_ | refine qsg ?_ | refine cg_cond_true rfl ?_ | refine cg_skip ?_ | refine cg_block ?_)
  refine rs rfl rfl (loc_call_is rfl rfl rfl rfl (fewBatch_ct hsx (hsh _ (List.getElem_mem hlt)))) ?_
  repeat (first | refine cg_seq ?_ | refine cg_region ?_ | refine rg_nil ?_ | refine eg_then ?_ | refine qsp ?_)
  cases p3 : fewB l[j]
  case false =>
    repeat (first | refine cg_seq ?_ | refine cg_region ?_ | refine rg_nil ?_ | refine eg_then ?_ | refine qsp ?_ | refine cg_cond_true rfl ?_ | refine cg_ret ?_ | refine eg_then_ret ?_ | refine eg_in_ret ?_)
    exact eg_return rfl rfl ⟨_, rfl, fun h => by cases h⟩
  repeat (first | refine cg_region ?_ | refine rg_nil ?_ | refine eg_then ?_ | refine qsp ?_ | refine qsa ?_ | refine cg_cond_false rfl ?_ | refine cg_skip ?_ | refine eg_in_normal ?_)
  exact eg_again (j + 1) _ ⟨rfl, hlt, rfl⟩ (by omega) ⟨rfl, rfl, rfl, trivial⟩
end Go.Wm

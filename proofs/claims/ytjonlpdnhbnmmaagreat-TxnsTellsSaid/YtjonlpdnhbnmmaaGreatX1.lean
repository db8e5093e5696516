/-
  Whether batches are the same, and transactions; what is hidden, and what is left. Conditions: that what is handed in reads as data.
-/
import Derived.Test.YtjonlpdnhbnmmaaGreatT1
set_option linter.all false
namespace Go.Wm
open Go.RowKit Go.Proofs
attribute [local irreducible] RG CG EG WA Loc Det Alc CT Exit.then Exit.inBlock Code.wp bodyPost

set_option maxHeartbeats 1000000 in
theorem sameRecs_ct {k : PH} {a b : Option Addr} {ca cb : Nat} {xs ys : List Rec} (hx : Sl tRec k a ca xs) (hy : Sl tRec k b cb ys) :
    CT Tryz.prog 75 #[.slice a xs.length ca, .slice b ys.length cb] k (fun _ v => v = .bool (decide (xs = ys))) := by
  refine ct_of_body (l := [_, _]) Tryz.func75 rfl Tryz.ntmps75 (by simp) (fun _ _ _ _ h => h) fun F hF0 hFm => ?_
  have b1 := hx.cap; have b2 := hx.max; unfold maxLen at b2
  repeat (first | refine cg_seq ?_ | refine cg_region ?_ | refine rg_nil ?_ | refine eg_then ?_ | refine qsp ?_ | refine qsn ?_)
  refine cg_cond rfl (fun h => ?_) (fun h => ?_)
  · repeat (first | refine cg_seq ?_ | refine cg_region ?_ | refine rg_nil ?_ | refine eg_then ?_ | refine qsp ?_ | refine cg_ret ?_ | refine eg_then_ret ?_)
    refine eg_return rfl rfl ?_
    have : xs ≠ ys := by rintro rfl; simp at h
    simp [this]
  · have hlen : xs.length = ys.length := by
      simp at h; omega
    repeat (first | refine cg_seq ?_ | refine cg_region ?_ | refine rg_nil ?_ | refine eg_then ?_ | refine qsp ?_ | refine qsn ?_ | refine cg_skip ?_ | refine cg_block ?_)
    refine cg_loop (fun (i : Nat) e k' => Le k k' ∧ i ≤ xs.length ∧ (∀ j, j < i → xs[j]? = ys[j]?) ∧ e = [(0, .is (.slice a xs.length ca)), (1, .is (.slice b ys.length cb)), (12, .is (.int .i64 (xs.length : Int))), (13, .is (.int .i64 (i : Int)))])
      (fun i => xs.length - i) 0 ⟨Le.refl _, Nat.zero_le _, fun j hj => by omega, rfl⟩ ⟨rfl, rfl, rfl, rfl, trivial⟩ ?_
    rintro i e k1 ⟨hle, hi, heq, rfl⟩
    repeat (first | refine cg_seq ?_ | refine cg_region ?_ | refine rg_nil ?_ | refine eg_then ?_ | refine qsp ?_)
    refine cg_cond rfl (fun h => ?_) (fun h => ?_)
    · have hlt : i < xs.length := by simpa using h
      have hlt2 : i < ys.length := by omega
      obtain ⟨bx, ox, cx, rfl, ⟨rfl, _⟩, hcx⟩ := (hx.le hle).el i xs[i] (List.getElem?_eq_getElem hlt)
      obtain ⟨by', oy, cy, rfl, ⟨rfl, _⟩, hcy⟩ := (hy.le hle).el i ys[i] (List.getElem?_eq_getElem hlt2)
      repeat (first | refine cg_seq ?_ | refine cg_region ?_ | refine rg_nil ?_ | refine eg_then ?_ | refine qsp ?_ | refine cg_skip ?_ | refine cg_block ?_)
      refine cg_any (by kernel_rfl) rfl ?_
      repeat (first | refine qwp ?_ | refine qwi ?_ | refine qwg ?_ | refine qwX ?_ | (refine wn rfl ?_; refine eg_then ?_))

      refine cg_cond rfl (fun h => ?_) (fun h => ?_)
      · repeat (first | refine cg_seq ?_ | refine cg_region ?_ | refine rg_nil ?_ | refine eg_then ?_ | refine qsp ?_ | refine cg_ret ?_ | refine eg_then_ret ?_ | refine eg_in_ret ?_)
        refine eg_return rfl rfl ?_
        have : xs ≠ ys := by
          rintro rfl
          simp at h
        simp [this]
      · repeat (first | refine cg_region ?_ | refine rg_nil ?_ | refine eg_then ?_ | refine qsp ?_ | refine qsa ?_ | refine cg_skip ?_ | refine eg_in_normal ?_)
        refine eg_again (i + 1) _ ⟨hle, hlt, fun j hj => ?_, rfl⟩ (by omega) ⟨rfl, rfl, rfl, rfl, trivial⟩
        by_cases hji : j = i
        · subst hji
          rw [List.getElem?_eq_getElem hlt, List.getElem?_eq_getElem hlt2]
          have : xs[j] = ys[j] := by simpa using h
          rw [this]
        · exact heq j (by omega)
    · repeat (first | refine cg_seq ?_ | refine cg_region ?_ | refine rg_nil ?_ | refine eg_then ?_ | refine qsp ?_ | refine cg_ret ?_ | refine cg_exit ?_ | refine eg_then_exit ?_ | refine eg_in_exit ?_)
      refine eg_return rfl rfl ?_
      have hix : i = xs.length := by simp at h; omega
      have : xs = ys := by
        apply List.ext_getElem?
        intro j
        by_cases hj : j < xs.length
        · exact heq j (by omega)
        · rw [List.getElem?_eq_none (by omega), List.getElem?_eq_none (by omega)]
      simp [this]
theorem Batch.eq_iff {a b : Batch} : a = b ↔ a.base = b.base ∧ a.last = b.last ∧ a.fromV = b.fromV ∧ a.epoch = b.epoch ∧ a.pid = b.pid ∧ a.gen = b.gen ∧ a.seq = b.seq ∧ a.txn = b.txn ∧ a.ctl = b.ctl ∧ a.recs = b.recs := by
  cases a; cases b; simp
set_option maxHeartbeats 1000000 in
theorem sameBatch_ct {k : PH} {a b : Batch} {p q : Option Addr} {c d : Nat} (ha : Sl tRec k p c a.recs) (hb : Sl tRec k q d b.recs) :
    CT Tryz.prog 40 #[.agg (a.cs p c).toArray, .agg (b.cs q d).toArray] k (fun _ v => v = .bool (decide (a = b))) := by
  refine ct_of_body (l := [_, _]) Tryz.func40 rfl Tryz.ntmps40 (by simp) (fun _ _ _ _ h => h) fun F hF0 hFm => ?_
  repeat (first | refine cg_seq ?_ | refine cg_region ?_)
  refine rb rfl rfl rfl rfl (a_box rfl rfl) ?_; intro b2 k2 hb2 hN2 hle2 hk2
  refine rb rfl rfl rfl rfl (a_box rfl rfl) ?_; intro b3 k3 hb3 hN3 hle3 hk3
  have c2 := (cells_at (vs := a.cs p c) hk2 rfl).le hle3
  have c3 := cells_at (vs := b.cs q d) hk3 rfl
  obtain ⟨p0, p1, p2, p3, p4, p5, p6, p7, p8, p9⟩ := Batch.parts c2
  obtain ⟨r0, r1, r2, r3, r4, r5, r6, r7, r8, r9⟩ := Batch.parts c3
  have ha := ha.le (hle2.trans hle3)
  have hb := hb.le (hle2.trans hle3)
  have bad : a ≠ b → Value.bool false = .bool (decide (a = b)) := fun h => by simp [h]
  repeat (first | refine cg_seq ?_ | refine cg_region ?_ | refine rg_nil ?_ | refine eg_then ?_ | refine qsp ?_ | refine qsl ?_ | refine qsf ?_)
  cases q0 : (a.base == b.base)
  · repeat (first | refine rg_nil ?_ | refine eg_then ?_ | refine qsp ?_ | refine qso ?_ | refine cg_ret ?_)
    exact eg_return rfl rfl (bad (fun h => by rw [h] at q0; simp at q0))
  simp at q0
  repeat (first | refine qsp ?_ | refine qsl ?_ | refine qsf ?_)
  cases q1 : (a.last == b.last)
  · repeat (first | refine rg_nil ?_ | refine eg_then ?_ | refine qsp ?_ | refine qso ?_ | refine cg_ret ?_)
    exact eg_return rfl rfl (bad (fun h => by rw [h] at q1; simp at q1))
  simp at q1
  repeat (first | refine qsp ?_ | refine qsl ?_ | refine qsf ?_)
  cases q2 : (a.fromV == b.fromV)
  · repeat (first | refine rg_nil ?_ | refine eg_then ?_ | refine qsp ?_ | refine qso ?_ | refine cg_ret ?_)
    exact eg_return rfl rfl (bad (fun h => by rw [h] at q2; simp at q2))
  simp at q2
  repeat (first | refine qsp ?_ | refine qsl ?_ | refine qsf ?_)
  cases q3 : (a.epoch == b.epoch)
  · repeat (first | refine rg_nil ?_ | refine eg_then ?_ | refine qsp ?_ | refine qso ?_ | refine cg_ret ?_)
    exact eg_return rfl rfl (bad (fun h => by rw [h] at q3; simp at q3))
  simp at q3
  repeat (first | refine qsp ?_ | refine qsl ?_ | refine qsf ?_)
  cases q4 : (a.pid == b.pid)
  · repeat (first | refine rg_nil ?_ | refine eg_then ?_ | refine qsp ?_ | refine qso ?_ | refine cg_ret ?_)
    exact eg_return rfl rfl (bad (fun h => by rw [h] at q4; simp at q4))
  simp at q4
  repeat (first | refine qsp ?_ | refine qsl ?_ | refine qsf ?_)
  cases q5 : (a.gen == b.gen)
  · repeat (first | refine rg_nil ?_ | refine eg_then ?_ | refine qsp ?_ | refine qso ?_ | refine cg_ret ?_)
    exact eg_return rfl rfl (bad (fun h => by rw [h] at q5; simp at q5))
  simp at q5
  repeat (first | refine qsp ?_ | refine qsl ?_ | refine qsf ?_)
  cases q6 : (a.seq == b.seq)
  · repeat (first | refine rg_nil ?_ | refine eg_then ?_ | refine qsp ?_ | refine qso ?_ | refine cg_ret ?_)
    exact eg_return rfl rfl (bad (fun h => by rw [h] at q6; simp at q6))
  simp at q6
  repeat (first | refine qsl ?_ | refine qsf ?_)
  refine rs rfl rfl (loc_det rfl (d_eqb rfl rfl rfl)) ?_
  repeat (first | refine qsp ?_)
  cases q7 : (a.txn == b.txn)
  · repeat (first | refine rg_nil ?_ | refine eg_then ?_ | refine qsp ?_ | refine qso ?_ | refine cg_ret ?_)
    exact eg_return rfl rfl (bad (fun h => by rw [h] at q7; simp at q7))
  simp at q7
  repeat (first | refine qsp ?_ | refine qsl ?_ | refine qsf ?_)
  cases q8 : (a.ctl == b.ctl)
  · repeat (first | refine rg_nil ?_ | refine eg_then ?_ | refine qsp ?_ | refine qso ?_ | refine cg_ret ?_)
    exact eg_return rfl rfl (bad (fun h => by rw [h] at q8; simp at q8))
  simp at q8
  repeat (first | refine qsl ?_ | refine qsf ?_)
  refine rs rfl rfl (loc_call_is rfl rfl rfl rfl (sameRecs_ct ha hb)) ?_
  repeat (first | refine rg_nil ?_ | refine eg_then ?_ | refine qsp ?_ | refine cg_ret ?_)
  refine eg_return rfl rfl ?_
  rw [show decide (a = b) = decide (a.recs = b.recs) by rw [decide_eq_decide, Batch.eq_iff]; simp [q0, q1, q2, q3, q4, q5, q6, q7, q8]]
set_option maxHeartbeats 1000000 in
theorem sameAllB_ct {k : PH} {a b : Option Addr} {ca cb : Nat} {xs ys : List Batch} (hx : Sl tBatch k a ca xs) (hy : Sl tBatch k b cb ys) :
    CT Tryz.prog 12 #[.slice a xs.length ca, .slice b ys.length cb] k (fun _ v => v = .bool (decide (xs = ys))) := by
  refine ct_of_body (l := [_, _]) Tryz.func12 rfl Tryz.ntmps12 (by simp) (fun _ _ _ _ h => h) fun F hF0 hFm => ?_
  have b1 := hx.cap; have b2 := hx.max; unfold maxLen at b2
  repeat (first | refine cg_seq ?_ | refine cg_region ?_ | refine rg_nil ?_ | refine eg_then ?_ | refine qsp ?_ | refine qsn ?_)
  refine cg_cond rfl (fun h => ?_) (fun h => ?_)
  · repeat (first | refine cg_seq ?_ | refine cg_region ?_ | refine rg_nil ?_ | refine eg_then ?_ | refine qsp ?_ | refine cg_ret ?_ | refine eg_then_ret ?_)
    refine eg_return rfl rfl ?_
    have : xs ≠ ys := by rintro rfl; simp at h
    simp [this]
  · have hlen : xs.length = ys.length := by
      simp at h; omega
    repeat (first | refine cg_seq ?_ | refine cg_region ?_ | refine rg_nil ?_ | refine eg_then ?_ | refine qsp ?_ | refine qsn ?_ | refine cg_skip ?_ | refine cg_block ?_)
    refine cg_loop (fun (i : Nat) e k' => Le k k' ∧ i ≤ xs.length ∧ (∀ j, j < i → xs[j]? = ys[j]?) ∧ e = [(0, .is (.slice a xs.length ca)), (1, .is (.slice b ys.length cb)), (12, .is (.int .i64 (xs.length : Int))), (13, .is (.int .i64 (i : Int)))])
      (fun i => xs.length - i) 0 ⟨Le.refl _, Nat.zero_le _, fun j hj => by omega, rfl⟩ ⟨rfl, rfl, rfl, rfl, trivial⟩ ?_
    rintro i e k1 ⟨hle, hi, heq, rfl⟩
    repeat (first | refine cg_seq ?_ | refine cg_region ?_ | refine rg_nil ?_ | refine eg_then ?_ | refine qsp ?_)
    refine cg_cond rfl (fun h => ?_) (fun h => ?_)
    · have hlt : i < xs.length := by simpa using h
      have hlt2 : i < ys.length := by omega
      obtain ⟨bx, ox, cx, rfl, ⟨ra, rc, rfl, hra, _⟩, hcx⟩ := (hx.le hle).el i xs[i] (List.getElem?_eq_getElem hlt)
      obtain ⟨by', oy, cy, rfl, ⟨rb, rd, rfl, hrb, _⟩, hcy⟩ := (hy.le hle).el i ys[i] (List.getElem?_eq_getElem hlt2)
      repeat (first | refine cg_seq ?_ | refine cg_region ?_ | refine rg_nil ?_ | refine eg_then ?_ | refine qsp ?_ | refine cg_skip ?_ | refine cg_block ?_)
      refine cg_any (by kernel_rfl) rfl ?_
      repeat (first | refine qwp ?_ | refine qwi ?_ | refine qwg ?_)
      refine ws rfl (loc_call_is rfl rfl rfl rfl (sameBatch_ct hra hrb)) ?_
      repeat (first | refine qwp ?_ | (refine wn rfl ?_; refine eg_then ?_))
      refine cg_cond rfl (fun h => ?_) (fun h => ?_)
      · repeat (first | refine cg_seq ?_ | refine cg_region ?_ | refine rg_nil ?_ | refine eg_then ?_ | refine qsp ?_ | refine cg_ret ?_ | refine eg_then_ret ?_ | refine eg_in_ret ?_)
        refine eg_return rfl rfl ?_
        have : xs ≠ ys := by
          rintro rfl
          simp at h
        simp [this]
      · repeat (first | refine cg_region ?_ | refine rg_nil ?_ | refine eg_then ?_ | refine qsp ?_ | refine qsa ?_ | refine cg_skip ?_ | refine eg_in_normal ?_)
        refine eg_again (i + 1) _ ⟨hle, hlt, fun j hj => ?_, rfl⟩ (by omega) ⟨rfl, rfl, rfl, rfl, trivial⟩
        by_cases hji : j = i
        · subst hji
          rw [List.getElem?_eq_getElem hlt, List.getElem?_eq_getElem hlt2]
          have : xs[j] = ys[j] := by simpa using h
          rw [this]
        · exact heq j (by omega)
    · repeat (first | refine cg_seq ?_ | refine cg_region ?_ | refine rg_nil ?_ | refine eg_then ?_ | refine qsp ?_ | refine cg_ret ?_ | refine cg_exit ?_ | refine eg_then_exit ?_ | refine eg_in_exit ?_)
      refine eg_return rfl rfl ?_
      have hix : i = xs.length := by simp at h; omega
      have : xs = ys := by
        apply List.ext_getElem?
        intro j
        by_cases hj : j < xs.length
        · exact heq j (by omega)
        · rw [List.getElem?_eq_none (by omega), List.getElem?_eq_none (by omega)]
      simp [this]
end Go.Wm

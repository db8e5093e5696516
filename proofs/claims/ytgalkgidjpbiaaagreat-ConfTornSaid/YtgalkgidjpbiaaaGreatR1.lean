/-
  When a configuration is few, and whether two are the same, the document's. Conditions: that what is handed in reads as data.
-/
import Derived.Test.YtgalkgidjpbiaaaGreatD1
set_option linter.all false
namespace Go.Wm
open Go.RowKit Go.Proofs
attribute [local irreducible] RG CG EG WA Loc Det Alc CT Exit.then Exit.inBlock Code.wp bodyPost
def fewC (x : Conf) : Bool := decide (x.topics.length ≤ 40) && (decide (x.rules.length ≤ 60) && (decide (x.rates.length ≤ 60) && decide (x.ways.length ≤ 60)))
set_option maxHeartbeats 4000000 in
theorem same_ct {k : PH} {x y : Conf} {a0 : Option Addr} {c0 : Nat} {a1 : Option Addr} {c1 : Nat} {a2 : Option Addr} {c2 : Nat} {a3 : Option Addr} {c3 : Nat} {b0 : Option Addr} {d0 : Nat} {b1 : Option Addr} {d1 : Nat} {b2 : Option Addr} {d2 : Nat} {b3 : Option Addr} {d3 : Nat}
    (H : CfAt k x a0 c0 a1 c1 a2 c2 a3 c3) (G : CfAt k y b0 d0 b1 d1 b2 d2 b3 d3) :
    CT Tryz.prog 12 #[.agg (x.cs a0 c0 a1 c1 a2 c2 a3 c3).toArray, .agg (y.cs b0 d0 b1 d1 b2 d2 b3 d3).toArray] k (fun _ v => v = .bool (decide (x = y))) := by
  refine ct_of_body (l := [_, _]) Tryz.func12 rfl Tryz.ntmps12 (by simp) (fun _ _ _ _ h => h) fun F hF0 hFm => ?_
  have n0 := H.t.cap; have m0 := H.t.max; have n1 := H.r.cap; have m1 := H.r.max; have n2 := H.q.cap; have m2 := H.q.max; have n3 := H.w.cap; have m3 := H.w.max
  unfold maxLen at m0 m1 m2 m3
  have no : ¬ x = y → Value.bool false = .bool (decide (x = y)) := fun h => by rw [decide_eq_false h]
  repeat (first | refine cg_seq ?_ | refine cg_region ?_)
  refine rb rfl rfl rfl rfl (a_box rfl rfl) ?_; intro s2 k2 hb2 hN2 hle2 hk2
  refine rb rfl rfl rfl rfl (a_box rfl rfl) ?_; intro s3 k3 hb3 hN3 hle3 hk3
  have H := H.le (hle2.trans hle3)
  have G := G.le (hle2.trans hle3)
  obtain ⟨p0, p1, p2, p3, p4⟩ := Conf.parts ((cells_at (vs := x.cs a0 c0 a1 c1 a2 c2 a3 c3) hk2 rfl).le hle3)
  obtain ⟨q0, q1, q2, q3, q4⟩ := Conf.parts (cells_at (vs := y.cs b0 d0 b1 d1 b2 d2 b3 d3) hk3 rfl)
  repeat (first | refine cg_seq ?_ | refine cg_region ?_ | refine rg_nil ?_ | refine eg_then ?_ | refine qsp ?_ | refine qsl ?_ | refine qsf ?_)
  cases w0 : (x.ver != y.ver)
  rotate_left
  · repeat (first | refine cg_seq ?_ | refine cg_region ?_ | refine rg_nil ?_ | refine eg_then ?_ | refine qsp ?_ | refine qso ?_ | refine cg_cond_true rfl ?_ | refine cg_ret ?_ | refine eg_then_ret ?_)
    exact eg_return rfl rfl (no fun h => by rw [h] at w0; simp at w0)
  have w0' : x.ver = y.ver := by simpa using w0
  repeat (first | refine qsp ?_ | refine qsn ?_ | refine qsl ?_ | refine qsf ?_)
  cases l0 : ((x.topics.length : Int) != (y.topics.length : Int))
  rotate_left
  · repeat (first | refine cg_seq ?_ | refine cg_region ?_ | refine rg_nil ?_ | refine eg_then ?_ | refine qsp ?_ | refine qso ?_ | refine cg_cond_true rfl ?_ | refine cg_ret ?_ | refine eg_then_ret ?_)
    exact eg_return rfl rfl (no fun h => by rw [h] at l0; simp at l0)
  have l0' : x.topics.length = y.topics.length := by
    have : (x.topics.length : Int) = (y.topics.length : Int) := by simpa using l0
    omega
  repeat (first | refine qsp ?_ | refine qsn ?_ | refine qsl ?_ | refine qsf ?_)
  cases l1 : ((x.rules.length : Int) != (y.rules.length : Int))
  rotate_left
  · repeat (first | refine cg_seq ?_ | refine cg_region ?_ | refine rg_nil ?_ | refine eg_then ?_ | refine qsp ?_ | refine qso ?_ | refine cg_cond_true rfl ?_ | refine cg_ret ?_ | refine eg_then_ret ?_)
    exact eg_return rfl rfl (no fun h => by rw [h] at l1; simp at l1)
  have l1' : x.rules.length = y.rules.length := by
    have : (x.rules.length : Int) = (y.rules.length : Int) := by simpa using l1
    omega
  repeat (first | refine qsp ?_ | refine qsn ?_ | refine qsl ?_ | refine qsf ?_)
  cases l2 : ((x.rates.length : Int) != (y.rates.length : Int))
  rotate_left
  · repeat (first | refine cg_seq ?_ | refine cg_region ?_ | refine rg_nil ?_ | refine eg_then ?_ | refine qsp ?_ | refine qso ?_ | refine cg_cond_true rfl ?_ | refine cg_ret ?_ | refine eg_then_ret ?_)
    exact eg_return rfl rfl (no fun h => by rw [h] at l2; simp at l2)
  have l2' : x.rates.length = y.rates.length := by
    have : (x.rates.length : Int) = (y.rates.length : Int) := by simpa using l2
    omega
  repeat (first | refine rg_nil ?_ | refine eg_then ?_ | refine qsp ?_ | refine qsn ?_ | refine qsl ?_ | refine qsf ?_)
  cases l3 : ((x.ways.length : Int) != (y.ways.length : Int))
  rotate_left
  · repeat (first | refine cg_seq ?_ | refine cg_region ?_ | refine rg_nil ?_ | refine eg_then ?_ | refine qsp ?_ | refine cg_cond_true rfl ?_ | refine cg_ret ?_ | refine eg_then_ret ?_)
    exact eg_return rfl rfl (no fun h => by rw [h] at l3; simp at l3)
  have l3' : x.ways.length = y.ways.length := by
    have : (x.ways.length : Int) = (y.ways.length : Int) := by simpa using l3
    omega
  repeat (first | refine cg_seq ?_ | refine cg_region ?_ | refine rg_nil ?_ | refine eg_then ?_ | refine qsp ?_ | refine qsn ?_ | refine qsl ?_ | refine qsf ?_ | refine cg_cond_false rfl ?_ | refine cg_skip ?_ | refine cg_block ?_)
  refine cg_loop (fun (i : Nat) e k' => k3 = k' ∧ i ≤ x.topics.length ∧ (∀ j, (h : j < x.topics.length) → j < i → x.topics[j] = y.topics[j]'(by omega)) ∧ e = [(2, .is (.pointer (some ⟨s2, 0, none⟩))), (3, .is (.pointer (some ⟨s3, 0, none⟩))), (52, .is (.int .i64 (x.topics.length : Int))), (53, .is (.int .i64 (i : Int)))])
    (fun i => x.topics.length - i) 0 ⟨rfl, Nat.zero_le _, fun j _ hj => by omega, rfl⟩ ⟨rfl, rfl, rfl, rfl, trivial⟩ ?_
  rintro i e k1 ⟨rfl, hi, hno, rfl⟩
  repeat (first | refine cg_seq ?_ | refine cg_region ?_ | refine rg_nil ?_ | refine eg_then ?_ | refine qsp ?_)
  refine cg_cond rfl (fun h => ?_) (fun h => ?_)
  · have hlt : i < x.topics.length := by simpa using h
    have hlt2 : i < y.topics.length := by omega
    obtain ⟨bx, ox, cx, ea, ⟨ecx, _⟩, hcx⟩ := H.t.el i x.topics[i] (List.getElem?_eq_getElem hlt)
    obtain ⟨by', oy, cy, ey, ⟨ecy, _⟩, hcy⟩ := G.t.el i y.topics[i] (List.getElem?_eq_getElem hlt2)
    subst ecx ecy ea ey
    repeat (first | refine cg_seq ?_ | refine cg_region ?_ | refine rg_nil ?_ | refine eg_then ?_ | refine qsp ?_ | refine cg_skip ?_ | refine cg_block ?_)
    refine cg_any (by kernel_rfl) rfl ?_
    repeat (first | refine qwp ?_ | refine qwi ?_ | refine qwl ?_ | refine qwg ?_ | refine qwf ?_ | refine qwX ?_ | (refine wn rfl ?_; refine eg_then ?_))
    skip
    cases hq : (!decide (x.topics[i] = y.topics[i]))
    · repeat (first | refine cg_region ?_ | refine rg_nil ?_ | refine eg_then ?_ | refine qsp ?_ | refine qsa ?_ | refine cg_cond_false rfl ?_ | refine cg_skip ?_ | refine eg_in_normal ?_)
      refine eg_again (i + 1) _ ⟨rfl, hlt, fun j hj hji => ?_, rfl⟩ (by omega) ⟨rfl, rfl, rfl, rfl, trivial⟩
      by_cases e : j = i
      · subst e; simpa using hq
      · exact hno j hj (by omega)
    · repeat (first | refine cg_seq ?_ | refine cg_region ?_ | refine rg_nil ?_ | refine eg_then ?_ | refine qsp ?_ | refine cg_cond_true rfl ?_ | refine cg_ret ?_ | refine eg_then_ret ?_ | refine eg_in_ret ?_)
      refine eg_return rfl rfl (no fun h => ?_)
      have hne : ¬ x.topics[i] = y.topics[i] := by simpa using hq
      exact hne (by simp only [h])
  have hq0 : x.topics = y.topics := by
    have : i = x.topics.length := by simp at h; omega
    exact List.ext_getElem l0' fun j h1 h2 => hno j h1 (by omega)
  clear hno hi h
  repeat (first | refine cg_seq ?_ | refine cg_region ?_ | refine rg_nil ?_ | refine eg_then ?_ | refine qsp ?_ | refine qsn ?_ | refine qsl ?_ | refine qsf ?_ | refine cg_block ?_ | refine cg_exit ?_ | refine eg_then_exit ?_ | refine eg_in_exit ?_)
  refine cg_loop (fun (i : Nat) e k' => k3 = k' ∧ i ≤ x.rules.length ∧ (∀ j, (h : j < x.rules.length) → j < i → x.rules[j] = y.rules[j]'(by omega)) ∧ e = [(2, .is (.pointer (some ⟨s2, 0, none⟩))), (3, .is (.pointer (some ⟨s3, 0, none⟩))), (70, .is (.int .i64 (x.rules.length : Int))), (71, .is (.int .i64 (i : Int)))])
    (fun i => x.rules.length - i) 0 ⟨rfl, Nat.zero_le _, fun j _ hj => by omega, rfl⟩ ⟨rfl, rfl, rfl, rfl, trivial⟩ ?_
  rintro i e k1 ⟨rfl, hi, hno, rfl⟩
  repeat (first | refine cg_seq ?_ | refine cg_region ?_ | refine rg_nil ?_ | refine eg_then ?_ | refine qsp ?_)
  refine cg_cond rfl (fun h => ?_) (fun h => ?_)
  · have hlt : i < x.rules.length := by simpa using h
    have hlt2 : i < y.rules.length := by omega
    obtain ⟨bx, ox, cx, ea, ⟨ecx, _⟩, hcx⟩ := H.r.el i x.rules[i] (List.getElem?_eq_getElem hlt)
    obtain ⟨by', oy, cy, ey, ⟨ecy, _⟩, hcy⟩ := G.r.el i y.rules[i] (List.getElem?_eq_getElem hlt2)
    subst ecx ecy ea ey
    repeat (first | refine cg_seq ?_ | refine cg_region ?_ | refine rg_nil ?_ | refine eg_then ?_ | refine qsp ?_ | refine cg_skip ?_ | refine cg_block ?_)
    refine cg_any (by kernel_rfl) rfl ?_
    repeat (first | refine qwp ?_ | refine qwi ?_ | refine qwl ?_ | refine qwg ?_ | refine qwf ?_ | refine qwX ?_ | (refine wn rfl ?_; refine eg_then ?_))
    skip
    cases hq : (!decide (x.rules[i] = y.rules[i]))
    · repeat (first | refine cg_region ?_ | refine rg_nil ?_ | refine eg_then ?_ | refine qsp ?_ | refine qsa ?_ | refine cg_cond_false rfl ?_ | refine cg_skip ?_ | refine eg_in_normal ?_)
      refine eg_again (i + 1) _ ⟨rfl, hlt, fun j hj hji => ?_, rfl⟩ (by omega) ⟨rfl, rfl, rfl, rfl, trivial⟩
      by_cases e : j = i
      · subst e; simpa using hq
      · exact hno j hj (by omega)
    · repeat (first | refine cg_seq ?_ | refine cg_region ?_ | refine rg_nil ?_ | refine eg_then ?_ | refine qsp ?_ | refine cg_cond_true rfl ?_ | refine cg_ret ?_ | refine eg_then_ret ?_ | refine eg_in_ret ?_)
      refine eg_return rfl rfl (no fun h => ?_)
      have hne : ¬ x.rules[i] = y.rules[i] := by simpa using hq
      exact hne (by simp only [h])
  have hq1 : x.rules = y.rules := by
    have : i = x.rules.length := by simp at h; omega
    exact List.ext_getElem l1' fun j h1 h2 => hno j h1 (by omega)
  clear hno hi h
  repeat (first | refine cg_seq ?_ | refine cg_region ?_ | refine rg_nil ?_ | refine eg_then ?_ | refine qsp ?_ | refine qsn ?_ | refine qsl ?_ | refine qsf ?_ | refine cg_block ?_ | refine cg_exit ?_ | refine eg_then_exit ?_ | refine eg_in_exit ?_)
  refine cg_loop (fun (i : Nat) e k' => k3 = k' ∧ i ≤ x.rates.length ∧ (∀ j, (h : j < x.rates.length) → j < i → x.rates[j] = y.rates[j]'(by omega)) ∧ e = [(2, .is (.pointer (some ⟨s2, 0, none⟩))), (3, .is (.pointer (some ⟨s3, 0, none⟩))), (88, .is (.int .i64 (x.rates.length : Int))), (89, .is (.int .i64 (i : Int)))])
    (fun i => x.rates.length - i) 0 ⟨rfl, Nat.zero_le _, fun j _ hj => by omega, rfl⟩ ⟨rfl, rfl, rfl, rfl, trivial⟩ ?_
  rintro i e k1 ⟨rfl, hi, hno, rfl⟩
  repeat (first | refine cg_seq ?_ | refine cg_region ?_ | refine rg_nil ?_ | refine eg_then ?_ | refine qsp ?_)
  refine cg_cond rfl (fun h => ?_) (fun h => ?_)
  · have hlt : i < x.rates.length := by simpa using h
    have hlt2 : i < y.rates.length := by omega
    obtain ⟨bx, ox, cx, ea, ⟨ecx, _⟩, hcx⟩ := H.q.el i x.rates[i] (List.getElem?_eq_getElem hlt)
    obtain ⟨by', oy, cy, ey, ⟨ecy, _⟩, hcy⟩ := G.q.el i y.rates[i] (List.getElem?_eq_getElem hlt2)
    subst ecx ecy ea ey
    repeat (first | refine cg_seq ?_ | refine cg_region ?_ | refine rg_nil ?_ | refine eg_then ?_ | refine qsp ?_ | refine cg_skip ?_ | refine cg_block ?_)
    refine cg_any (by kernel_rfl) rfl ?_
    repeat (first | refine qwp ?_ | refine qwi ?_ | refine qwl ?_ | refine qwg ?_ | refine qwf ?_ | refine qwX ?_ | (refine wn rfl ?_; refine eg_then ?_))
    skip
    cases hq : (!decide (x.rates[i] = y.rates[i]))
    · repeat (first | refine cg_region ?_ | refine rg_nil ?_ | refine eg_then ?_ | refine qsp ?_ | refine qsa ?_ | refine cg_cond_false rfl ?_ | refine cg_skip ?_ | refine eg_in_normal ?_)
      refine eg_again (i + 1) _ ⟨rfl, hlt, fun j hj hji => ?_, rfl⟩ (by omega) ⟨rfl, rfl, rfl, rfl, trivial⟩
      by_cases e : j = i
      · subst e; simpa using hq
      · exact hno j hj (by omega)
    · repeat (first | refine cg_seq ?_ | refine cg_region ?_ | refine rg_nil ?_ | refine eg_then ?_ | refine qsp ?_ | refine cg_cond_true rfl ?_ | refine cg_ret ?_ | refine eg_then_ret ?_ | refine eg_in_ret ?_)
      refine eg_return rfl rfl (no fun h => ?_)
      have hne : ¬ x.rates[i] = y.rates[i] := by simpa using hq
      exact hne (by simp only [h])
  have hq2 : x.rates = y.rates := by
    have : i = x.rates.length := by simp at h; omega
    exact List.ext_getElem l2' fun j h1 h2 => hno j h1 (by omega)
  clear hno hi h
  repeat (first | refine cg_seq ?_ | refine cg_region ?_ | refine rg_nil ?_ | refine eg_then ?_ | refine qsp ?_ | refine qsn ?_ | refine qsl ?_ | refine qsf ?_ | refine cg_block ?_ | refine cg_exit ?_ | refine eg_then_exit ?_ | refine eg_in_exit ?_)
  refine cg_loop (fun (i : Nat) e k' => k3 = k' ∧ i ≤ x.ways.length ∧ (∀ j, (h : j < x.ways.length) → j < i → x.ways[j] = y.ways[j]'(by omega)) ∧ e = [(2, .is (.pointer (some ⟨s2, 0, none⟩))), (3, .is (.pointer (some ⟨s3, 0, none⟩))), (106, .is (.int .i64 (x.ways.length : Int))), (107, .is (.int .i64 (i : Int)))])
    (fun i => x.ways.length - i) 0 ⟨rfl, Nat.zero_le _, fun j _ hj => by omega, rfl⟩ ⟨rfl, rfl, rfl, rfl, trivial⟩ ?_
  rintro i e k1 ⟨rfl, hi, hno, rfl⟩
  repeat (first | refine cg_seq ?_ | refine cg_region ?_ | refine rg_nil ?_ | refine eg_then ?_ | refine qsp ?_)
  refine cg_cond rfl (fun h => ?_) (fun h => ?_)
  · have hlt : i < x.ways.length := by simpa using h
    have hlt2 : i < y.ways.length := by omega
    obtain ⟨bx, ox, cx, ea, ⟨ecx, _⟩, hcx⟩ := H.w.el i x.ways[i] (List.getElem?_eq_getElem hlt)
    obtain ⟨by', oy, cy, ey, ⟨ecy, _⟩, hcy⟩ := G.w.el i y.ways[i] (List.getElem?_eq_getElem hlt2)
    subst ecx ecy ea ey
    repeat (first | refine cg_seq ?_ | refine cg_region ?_ | refine rg_nil ?_ | refine eg_then ?_ | refine qsp ?_ | refine cg_skip ?_ | refine cg_block ?_)
    refine cg_any (by kernel_rfl) rfl ?_
    repeat (first | refine qwp ?_ | refine qwi ?_ | refine qwl ?_ | refine qwg ?_ | refine qwf ?_ | refine qwX ?_ | (refine wn rfl ?_; refine eg_then ?_))
    skip
    cases hq : (!decide (x.ways[i] = y.ways[i]))
    · repeat (first | refine cg_region ?_ | refine rg_nil ?_ | refine eg_then ?_ | refine qsp ?_ | refine qsa ?_ | refine cg_cond_false rfl ?_ | refine cg_skip ?_ | refine eg_in_normal ?_)
      refine eg_again (i + 1) _ ⟨rfl, hlt, fun j hj hji => ?_, rfl⟩ (by omega) ⟨rfl, rfl, rfl, rfl, trivial⟩
      by_cases e : j = i
      · subst e; simpa using hq
      · exact hno j hj (by omega)
    · repeat (first | refine cg_seq ?_ | refine cg_region ?_ | refine rg_nil ?_ | refine eg_then ?_ | refine qsp ?_ | refine cg_cond_true rfl ?_ | refine cg_ret ?_ | refine eg_then_ret ?_ | refine eg_in_ret ?_)
      refine eg_return rfl rfl (no fun h => ?_)
      have hne : ¬ x.ways[i] = y.ways[i] := by simpa using hq
      exact hne (by simp only [h])
  have hq3 : x.ways = y.ways := by
    have : i = x.ways.length := by simp at h; omega
    exact List.ext_getElem l3' fun j h1 h2 => hno j h1 (by omega)
  clear hno hi h
  repeat (first | refine cg_seq ?_ | refine cg_region ?_ | refine rg_nil ?_ | refine eg_then ?_ | refine qsp ?_ | refine cg_ret ?_ | refine cg_exit ?_ | refine eg_then_exit ?_ | refine eg_in_exit ?_)
  refine eg_return rfl rfl ?_
  have : x = y := by cases x; cases y; simp only at w0' hq0 hq1 hq2 hq3; subst w0' hq0 hq1 hq2 hq3; rfl
  rw [decide_eq_true this]
end Go.Wm
-- cut by zcut

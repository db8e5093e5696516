/-
  What the laws look at: who is found, lists alike, groups alike, what is few. Conditions: that what is handed in reads as data.
-/
import Derived.Test.YtbhgbfhgdccghaaGreatN12
set_option linter.all false
namespace Go.Wm
open Go.RowKit Go.Proofs
def fewM (m : Member) : Bool := decide ((∀ s ∈ m.subs.take 20, s.size ≤ 100) ∧ (∀ t ∈ m.own.take 100, t.topic.size ≤ 100) ∧ m.id.size ≤ 100 ∧ m.static.size ≤ 100 ∧ m.subs.length ≤ 20 ∧ m.own.length ≤ 100)
def fewG (g : Group) : Bool := if 64 < g.l.length then true else g.l.all fewM && (decide (g.l.length ≤ 10) && decide (g.name.size ≤ 100))
attribute [local irreducible] RG CG EG WA Loc Det Alc CT Exit.then Exit.inBlock Code.wp bodyPost
set_option maxHeartbeats 400000 in
theorem refFind_ct {k : PH} {g : Group} {a : Option Addr} {c : Nat} (hl : Sl tMember k a c g.l) (id : ByteArray) : CT Tryz.prog 38 #[.agg (g.cs a c).toArray, .string id] k (fun _ v => v = .int .i64 (idxF g.l fun m => decide (m.id = id))) := by
  refine ct_of_body (l := [_, _]) Tryz.func38 rfl Tryz.ntmps38 (by simp) (fun _ _ _ _ h => h) fun F hF0 hFm => ?_
  have b1 := hl.cap; have b2 := hl.max; unfold maxLen at b2
  repeat (first | refine cg_seq ?_ | refine cg_region ?_)
  refine rb rfl rfl rfl rfl (a_box rfl rfl) ?_; intro b3 k3 hb3 hN3 hle3 hk3
  obtain ⟨p0, p1, p2, p3⟩ := Group.parts (cells_at (vs := g.cs a c) hk3 rfl)
  repeat (first | refine cg_seq ?_ | refine cg_region ?_ | refine rg_nil ?_ | refine eg_then ?_ | refine qsp ?_ | refine cg_block ?_)
  refine cg_loop (fun (i : Nat) e k' => k' = k3 ∧ i ≤ g.l.length ∧ (∀ x ∈ g.l.take i, decide (x.id = id) = false) ∧ e = [(1, .is (.string id)), (2, .is (.pointer (some ⟨b3, 0, none⟩))), (5, .is (.int .i64 (i : Int)))])
    (fun i => g.l.length - i) 0 ⟨rfl, Nat.zero_le _, by simp, rfl⟩ ⟨rfl, rfl, rfl, trivial⟩ ?_
  rintro i e k1 ⟨rfl, hi, hno, rfl⟩
  repeat (first | refine cg_seq ?_ | refine cg_region ?_ | refine rg_nil ?_ | refine eg_then ?_ | refine qsp ?_ | refine qsn ?_ | refine qsl ?_ | refine qsf ?_)
  refine cg_cond rfl (fun h => ?_) (fun h => ?_)
  · have hlt : i < g.l.length := by simpa using h
    obtain ⟨bx, ox, cx, ea, ⟨a0, c0, a1, c1, rfl, _, _⟩, hcx⟩ := hl.el i g.l[i] (List.getElem?_eq_getElem hlt)
    subst ea
    obtain ⟨q0, q1, q2, q3, q4, q5⟩ := Member.parts (hcx.le hle3)
    repeat (first | refine cg_seq ?_ | refine cg_region ?_ | refine rg_nil ?_ | refine eg_then ?_ | refine qsp ?_ | refine qsi ?_ | refine qsl ?_ | refine qsf ?_ | refine cg_skip ?_ | refine cg_block ?_)
    refine cg_cond rfl (fun h => ?_) (fun h => ?_)
    · repeat (first | refine cg_seq ?_ | refine cg_region ?_ | refine rg_nil ?_ | refine eg_then ?_ | refine qsp ?_ | refine cg_ret ?_ | refine eg_then_ret ?_ | refine eg_in_ret ?_)
      refine eg_return rfl rfl ?_
      rw [idxF_at hlt h hno]
    · repeat (first | refine cg_region ?_ | refine rg_nil ?_ | refine eg_then ?_ | refine qsp ?_ | refine qsa ?_ | refine cg_skip ?_ | refine eg_in_normal ?_)
      refine eg_again (i + 1) _ ⟨rfl, hlt, fun x hx => ?_, rfl⟩ (by omega) ⟨rfl, rfl, rfl, trivial⟩
      rw [List.take_succ_eq_append_getElem hlt] at hx
      rcases List.mem_append.1 hx with hx | hx
      · exact hno x hx
      · simp at hx; rw [hx]; exact h
  · repeat (first | refine cg_seq ?_ | refine cg_region ?_ | refine rg_nil ?_ | refine eg_then ?_ | refine qsp ?_ | refine cg_ret ?_ | refine cg_exit ?_ | refine eg_then_exit ?_ | refine eg_in_exit ?_)
    refine eg_return rfl rfl ?_
    have : i = g.l.length := by simp at h; omega
    rw [this, List.take_length] at hno
    rw [idxF_no hno]
set_option maxHeartbeats 400000 in
theorem tps_ct {k : PH} {a b : Option Addr} {ca cb : Nat} {xs ys : List Tp} (hx : Sl tTp k a ca xs) (hy : Sl tTp k b cb ys) :
    CT Tryz.prog 12 #[.slice a xs.length ca, .slice b ys.length cb] k (fun _ v => v = .bool (decide (xs = ys))) := by
  refine ct_of_body (l := [_, _]) Tryz.func12 rfl Tryz.ntmps12 (by simp) (fun _ _ _ _ h => h) fun F hF0 hFm => ?_
  have b1 := hx.cap; have b2 := hx.max; unfold maxLen at b2
  repeat (first | refine cg_seq ?_ | refine cg_region ?_ | refine rg_nil ?_ | refine eg_then ?_ | refine qsp ?_ | refine qsn ?_)
  refine cg_cond rfl (fun h => ?_) (fun h => ?_)
  · repeat (first | refine cg_seq ?_ | refine cg_region ?_ | refine rg_nil ?_ | refine eg_then ?_ | refine qsp ?_ | refine cg_ret ?_ | refine eg_then_ret ?_)
    refine eg_return rfl rfl ?_
    have : xs ≠ ys := by rintro rfl; simp at h
    simp [this]
  · have hlen : xs.length = ys.length := by
      simp at h; omega
    repeat (first | refine cg_seq ?_ | refine cg_region ?_ | refine rg_nil ?_ | refine eg_then ?_ | refine qsp ?_ | refine cg_skip ?_ | refine cg_block ?_)
    refine cg_loop (fun (i : Nat) e k' => k' = k ∧ i ≤ xs.length ∧ (∀ j, j < i → xs[j]? = ys[j]?) ∧ e = [(0, .is (.slice a xs.length ca)), (1, .is (.slice b ys.length cb)), (5, .is (.int .i64 (i : Int)))])
      (fun i => xs.length - i) 0 ⟨rfl, Nat.zero_le _, fun j hj => by omega, rfl⟩ ⟨rfl, rfl, rfl, trivial⟩ ?_
    rintro i e k1 ⟨rfl, hi, heq, rfl⟩
    repeat (first | refine cg_seq ?_ | refine cg_region ?_ | refine rg_nil ?_ | refine eg_then ?_ | refine qsp ?_ | refine qsn ?_)
    refine cg_cond rfl (fun h => ?_) (fun h => ?_)
    · have hlt : i < xs.length := by simpa using h
      have hlt2 : i < ys.length := by omega
      obtain ⟨bx, ox, cx, rfl, ⟨rfl, _⟩, hcx⟩ := hx.el i xs[i] (List.getElem?_eq_getElem hlt)
      obtain ⟨by', oy, cy, rfl, ⟨rfl, _⟩, hcy⟩ := hy.el i ys[i] (List.getElem?_eq_getElem hlt2)
      repeat (first | refine cg_seq ?_ | refine eg_then ?_ | refine cg_skip ?_ | refine cg_block ?_)
      refine cg_any (by kernel_rfl) rfl ?_
      repeat (first | refine qwp ?_ | refine qwi ?_ | refine qwg ?_ | refine qwX ?_ | (refine wn rfl ?_; refine eg_then ?_))
      refine cg_cond rfl (fun h => ?_) (fun h => ?_)
      · repeat (first | refine cg_seq ?_ | refine cg_region ?_ | refine rg_nil ?_ | refine eg_then ?_ | refine qsp ?_ | refine cg_ret ?_ | refine eg_then_ret ?_ | refine eg_in_ret ?_)
        refine eg_return rfl rfl ?_
        have : xs ≠ ys := by
          rintro rfl
          simp at h
        simp [this]
      · repeat (first | refine cg_region ?_ | refine rg_nil ?_ | refine eg_then ?_ | refine qsp ?_ | refine qsa ?_ | refine cg_skip ?_ | refine eg_in_normal ?_)
        refine eg_again (i + 1) _ ⟨rfl, hlt, fun j hj => ?_, rfl⟩ (by omega) ⟨rfl, rfl, rfl, trivial⟩
        by_cases hji : j = i
        · subst hji
          rw [List.getElem?_eq_getElem hlt, List.getElem?_eq_getElem hlt2]
          simp at h
          rw [h]
        · exact heq j (by omega)
    · repeat (first | refine cg_seq ?_ | refine cg_region ?_ | refine rg_nil ?_ | refine eg_then ?_ | refine qsp ?_ | refine cg_ret ?_ | refine cg_exit ?_ | refine eg_then_exit ?_ | refine eg_in_exit ?_)
      refine eg_return rfl rfl ?_
      have hix : i = xs.length := by simp at h; omega
      have : xs = ys := by
        apply List.ext_getElem?
        intro j
        by_cases hj : j < xs.length
        · exact heq j (by omega)
        · rw [List.getElem?_eq_none (by omega), List.getElem?_eq_none (by omega)]
      simp [this]
set_option maxHeartbeats 400000 in
theorem sameSubs_ct {k : PH} {a b : Option Addr} {ca cb : Nat} {xs ys : List ByteArray} (hx : Sl tStr k a ca xs) (hy : Sl tStr k b cb ys) :
    CT Tryz.prog 89 #[.slice a xs.length ca, .slice b ys.length cb] k (fun _ v => v = .bool (decide (xs = ys))) := by
  refine ct_of_body (l := [_, _]) Tryz.func89 rfl Tryz.ntmps89 (by simp) (fun _ _ _ _ h => h) fun F hF0 hFm => ?_
  have b1 := hx.cap; have b2 := hx.max; unfold maxLen at b2
  repeat (first | refine cg_seq ?_ | refine cg_region ?_ | refine rg_nil ?_ | refine eg_then ?_ | refine qsp ?_ | refine qsn ?_)
  refine cg_cond rfl (fun h => ?_) (fun h => ?_)
  · repeat (first | refine cg_seq ?_ | refine cg_region ?_ | refine rg_nil ?_ | refine eg_then ?_ | refine qsp ?_ | refine cg_ret ?_ | refine eg_then_ret ?_)
    refine eg_return rfl rfl ?_
    have : xs ≠ ys := by rintro rfl; simp at h
    simp [this]
  · have hlen : xs.length = ys.length := by
      simp at h; omega
    repeat (first | refine cg_seq ?_ | refine cg_region ?_ | refine rg_nil ?_ | refine eg_then ?_ | refine qsp ?_ | refine cg_skip ?_ | refine cg_block ?_)
    refine cg_loop (fun (i : Nat) e k' => k' = k ∧ i ≤ xs.length ∧ (∀ j, j < i → xs[j]? = ys[j]?) ∧ e = [(0, .is (.slice a xs.length ca)), (1, .is (.slice b ys.length cb)), (5, .is (.int .i64 (i : Int)))])
      (fun i => xs.length - i) 0 ⟨rfl, Nat.zero_le _, fun j hj => by omega, rfl⟩ ⟨rfl, rfl, rfl, trivial⟩ ?_
    rintro i e k1 ⟨rfl, hi, heq, rfl⟩
    repeat (first | refine cg_seq ?_ | refine cg_region ?_ | refine rg_nil ?_ | refine eg_then ?_ | refine qsp ?_ | refine qsn ?_)
    refine cg_cond rfl (fun h => ?_) (fun h => ?_)
    · have hlt : i < xs.length := by simpa using h
      have hlt2 : i < ys.length := by omega
      obtain ⟨bx, ox, cx, rfl, ⟨rfl, _⟩, hcx⟩ := hx.el i xs[i] (List.getElem?_eq_getElem hlt)
      obtain ⟨by', oy, cy, rfl, ⟨rfl, _⟩, hcy⟩ := hy.el i ys[i] (List.getElem?_eq_getElem hlt2)
      repeat (first | refine cg_seq ?_ | refine eg_then ?_ | refine cg_skip ?_ | refine cg_block ?_)
      refine cg_any (by kernel_rfl) rfl ?_
      repeat (first | refine qwp ?_ | refine qwi ?_ | refine qwl ?_ | (refine wn rfl ?_; refine eg_then ?_))
      refine cg_cond rfl (fun h => ?_) (fun h => ?_)
      · repeat (first | refine cg_seq ?_ | refine cg_region ?_ | refine rg_nil ?_ | refine eg_then ?_ | refine qsp ?_ | refine cg_ret ?_ | refine eg_then_ret ?_ | refine eg_in_ret ?_)
        refine eg_return rfl rfl ?_
        have : xs ≠ ys := by
          rintro rfl
          simp at h
        simp [this]
      · repeat (first | refine cg_region ?_ | refine rg_nil ?_ | refine eg_then ?_ | refine qsp ?_ | refine qsa ?_ | refine cg_skip ?_ | refine eg_in_normal ?_)
        refine eg_again (i + 1) _ ⟨rfl, hlt, fun j hj => ?_, rfl⟩ (by omega) ⟨rfl, rfl, rfl, trivial⟩
        by_cases hji : j = i
        · subst hji
          rw [List.getElem?_eq_getElem hlt, List.getElem?_eq_getElem hlt2]
          simp at h
          rw [h]
        · exact heq j (by omega)
    · repeat (first | refine cg_seq ?_ | refine cg_region ?_ | refine rg_nil ?_ | refine eg_then ?_ | refine qsp ?_ | refine cg_ret ?_ | refine cg_exit ?_ | refine eg_then_exit ?_ | refine eg_in_exit ?_)
      refine eg_return rfl rfl ?_
      have hix : i = xs.length := by simp at h; omega
      have : xs = ys := by
        apply List.ext_getElem?
        intro j
        by_cases hj : j < xs.length
        · exact heq j (by omega)
        · rw [List.getElem?_eq_none (by omega), List.getElem?_eq_none (by omega)]
      simp [this]
set_option maxHeartbeats 400000 in
theorem has_ct {k : PH} {a : Option Addr} {c : Nat} {l : List Tp} (hl : Sl tTp k a c l) (t : Tp) : CT Tryz.prog 111 #[.slice a l.length c, .agg t.vs.toArray] k (fun _ v => v = .bool (decide (t ∈ l))) := by
  refine ct_of_body (l := [_, _]) Tryz.func111 rfl Tryz.ntmps111 (by simp) (fun _ _ _ _ h => h) fun F hF0 hFm => ?_
  have b1 := hl.cap; have b2 := hl.max; unfold maxLen at b2
  repeat (first | refine cg_seq ?_ | refine cg_region ?_)
  refine rb rfl rfl rfl rfl (a_box rfl rfl) ?_; intro b3 k3 hb3 hN3 hle3 hk3
  have c3 := cells_at (vs := t.vs) hk3 rfl
  repeat (first | refine cg_seq ?_ | refine cg_region ?_ | refine rg_nil ?_ | refine eg_then ?_ | refine qsp ?_ | refine cg_block ?_)
  refine cg_loop (fun (i : Nat) e k' => k' = k3 ∧ i ≤ l.length ∧ (∀ x ∈ l.take i, x ≠ t) ∧ e = [(0, .is (.slice a l.length c)), (3, .is (.pointer (some ⟨b3, 0, none⟩))), (5, .is (.int .i64 (i : Int)))])
    (fun i => l.length - i) 0 ⟨rfl, Nat.zero_le _, by simp, rfl⟩ ⟨rfl, rfl, rfl, trivial⟩ ?_
  rintro i e k1 ⟨rfl, hi, hno, rfl⟩
  repeat (first | refine cg_seq ?_ | refine cg_region ?_ | refine rg_nil ?_ | refine eg_then ?_ | refine qsp ?_ | refine qsn ?_)
  refine cg_cond rfl (fun h => ?_) (fun h => ?_)
  · have hlt : i < l.length := by simpa using h
    obtain ⟨bx, ox, cx, rfl, ⟨rfl, _⟩, hcx⟩ := hl.el i l[i] (List.getElem?_eq_getElem hlt)
    have hcx := hcx.le hle3
    repeat (first | refine cg_seq ?_ | refine eg_then ?_ | refine cg_skip ?_ | refine cg_block ?_)
    refine cg_any (by kernel_rfl) rfl ?_
    repeat (first | refine qwp ?_ | refine qwi ?_ | refine qwg ?_ | refine qwE ?_ | (refine wn rfl ?_; refine eg_then ?_))
    refine cg_cond rfl (fun h => ?_) (fun h => ?_)
    · repeat (first | refine cg_seq ?_ | refine cg_region ?_ | refine rg_nil ?_ | refine eg_then ?_ | refine qsp ?_ | refine cg_ret ?_ | refine eg_then_ret ?_ | refine eg_in_ret ?_)
      refine eg_return rfl rfl ?_
      have h : l[i] = t := by simpa using h
      have : t ∈ l := h ▸ List.getElem_mem hlt
      simp [this]
    · repeat (first | refine cg_region ?_ | refine rg_nil ?_ | refine eg_then ?_ | refine qsp ?_ | refine qsa ?_ | refine cg_skip ?_ | refine eg_in_normal ?_)
      refine eg_again (i + 1) _ ⟨rfl, hlt, fun x hx => ?_, rfl⟩ (by omega) ⟨rfl, rfl, rfl, trivial⟩
      rw [List.take_succ_eq_append_getElem hlt] at hx
      rcases List.mem_append.1 hx with hx | hx
      · exact hno x hx
      · simp at hx; rw [hx]; simpa using h
  · repeat (first | refine cg_seq ?_ | refine cg_region ?_ | refine rg_nil ?_ | refine eg_then ?_ | refine qsp ?_ | refine cg_ret ?_ | refine cg_exit ?_ | refine eg_then_exit ?_ | refine eg_in_exit ?_)
    refine eg_return rfl rfl ?_
    have : i = l.length := by simp at h; omega
    rw [this, List.take_length] at hno
    have : t ∉ l := fun h => hno t h rfl
    simp [this]
set_option maxHeartbeats 1000000 in
theorem fewM_ct {k : PH} {m : Member} {cm : List Value} (hm : tMember.rep k cm m) : CT Tryz.prog 63 #[.agg cm.toArray] k (fun _ v => v = .bool (fewM m)) := by
  obtain ⟨a0, c0, a1, c1, rfl, ⟨hs, ho⟩, hok⟩ := hm
  obtain ⟨o1, o2, _⟩ := hok
  refine ct_of_body (l := [_]) Tryz.func63 rfl Tryz.ntmps63 (by simp) (fun _ _ _ _ h => h) fun F hF0 hFm => ?_
  have b1 := hs.cap; have b2 := hs.max; have b3 := ho.cap; have b4 := ho.max; unfold maxLen at b2 b4 o1 o2
  repeat (first | refine cg_seq ?_ | refine cg_region ?_)
  refine rb rfl rfl rfl rfl (a_box rfl rfl) ?_; intro b5 k5 hb5 hN5 hle5 hk5
  obtain ⟨p0, p1, p2, p3, p4, p5⟩ := Member.parts (cells_at (vs := m.cs a0 c0 a1 c1) hk5 rfl)
  repeat (first | refine cg_seq ?_ | refine cg_region ?_ | refine rg_nil ?_ | refine eg_then ?_ | refine qsp ?_ | refine cg_block ?_)
  refine cg_loop (fun (i : Nat) e k' => k' = k5 ∧ i ≤ m.subs.length ∧ i ≤ 20 ∧ (∀ s ∈ m.subs.take i, s.size ≤ 100) ∧ e = [(1, .is (.pointer (some ⟨b5, 0, none⟩))), (3, .is (.int .i64 (i : Int)))])
    (fun i => m.subs.length - i) 0 ⟨rfl, Nat.zero_le _, Nat.zero_le _, by simp, rfl⟩ ⟨rfl, rfl, trivial⟩ ?_
  rintro i e k1 ⟨rfl, hi, h20, hno, rfl⟩
  repeat (first | refine cg_seq ?_ | refine cg_region ?_ | refine qsp ?_ | refine qsn ?_ | refine qsl ?_ | refine qsf ?_)
  by_cases hlt : i < m.subs.length ∧ i < 20
  · obtain ⟨hlt, hlt2⟩ := hlt
    rw [show decide ((i : Int) < (m.subs.length : Int)) = true by simp; exact hlt]
    repeat (first | refine rg_nil ?_ | refine eg_then ?_ | refine qsp ?_)
    rw [show decide ((i : Int) < 20) = true by simp; omega]
    repeat (first | refine cg_seq ?_ | refine cg_region ?_ | refine eg_then ?_ | refine qsp ?_ | refine qsl ?_ | refine qsf ?_ | refine cg_cond_true rfl ?_ | refine cg_skip ?_ | refine cg_block ?_)
    obtain ⟨bx, ox, cx, rfl, ⟨rfl, hz⟩, hcx⟩ := hs.el i m.subs[i] (List.getElem?_eq_getElem hlt)
    have hcx := hcx.le hle5
    repeat (first | refine qsi ?_ | refine qsl ?_)
    refine rs rfl rfl (loc_det rfl (d_len_str rfl rfl)) ?_
    repeat (first | refine rg_nil ?_ | refine eg_then ?_ | refine qsp ?_)
    refine cg_cond rfl (fun h => ?_) (fun h => ?_)
    · repeat (first | refine cg_seq ?_ | refine cg_region ?_ | refine rg_nil ?_ | refine eg_then ?_ | refine qsp ?_ | refine cg_ret ?_ | refine eg_then_ret ?_ | refine eg_in_ret ?_)
      refine eg_return rfl rfl ?_
      have h : 100 < m.subs[i].size := by simp at h; omega
      have hin : m.subs[i] ∈ m.subs.take 20 := List.mem_take_iff_getElem.2 ⟨i, by omega, rfl⟩
      have : fewM m = false := by
        unfold fewM
        rw [decide_eq_false_iff_not]
        intro hh
        have := hh.1 _ hin
        omega
      rw [this]
    · have h : m.subs[i].size ≤ 100 := by simp at h; omega
      repeat (first | refine cg_region ?_ | refine rg_nil ?_ | refine eg_then ?_ | refine qsp ?_ | refine qsa ?_ | refine cg_skip ?_ | refine eg_in_normal ?_)
      refine eg_again (i + 1) _ ⟨rfl, hlt, hlt2, fun x hx => ?_, rfl⟩ (by omega) ⟨rfl, rfl, trivial⟩
      rw [List.take_succ_eq_append_getElem hlt] at hx
      rcases List.mem_append.1 hx with hx | hx
      · exact hno x hx
      · simp at hx; rw [hx]; exact h
  have hsubs : ∀ s ∈ m.subs.take 20, s.size ≤ 100 := by
    by_cases h : i < m.subs.length
    · have : i = 20 := by omega
      rw [← this]; exact hno
    · have : i = m.subs.length := by omega
      rw [this, List.take_length] at hno
      exact fun s hs => hno s (List.mem_of_mem_take hs)
  apply meet (k := k1) [(1, .is (.pointer (some ⟨b5, 0, none⟩))), (4, .is (.int .i64 0))] True
  · intro go
    by_cases h : i < m.subs.length
    · rw [show decide ((i : Int) < (m.subs.length : Int)) = true by simp; exact h]
      repeat (first | refine rg_nil ?_ | refine eg_then ?_ | refine qsp ?_)
      rw [show decide ((i : Int) < 20) = false by simp; omega]
      repeat (first | refine cg_seq ?_ | refine cg_region ?_ | refine rg_nil ?_ | refine eg_then ?_ | refine qsp ?_ | refine cg_cond_false rfl ?_ | refine cg_block ?_ | refine cg_exit ?_ | refine eg_then_exit ?_ | refine eg_in_exit ?_)
      exact go _ trivial ⟨rfl, rfl, trivial⟩
    · rw [show decide ((i : Int) < (m.subs.length : Int)) = false by simp; omega]
      repeat (first | refine cg_seq ?_ | refine cg_region ?_ | refine rg_nil ?_ | refine eg_then ?_ | refine qsp ?_ | refine qso ?_ | refine cg_cond_false rfl ?_ | refine cg_block ?_ | refine cg_exit ?_ | refine eg_then_exit ?_ | refine eg_in_exit ?_)
      exact go _ trivial ⟨rfl, rfl, trivial⟩
  rintro -
  clear hno hlt h20 hi
  skip
  refine cg_loop (fun (i : Nat) e k' => k' = k1 ∧ i ≤ m.own.length ∧ i ≤ 100 ∧ (∀ t ∈ m.own.take i, t.topic.size ≤ 100) ∧ e = [(1, .is (.pointer (some ⟨b5, 0, none⟩))), (4, .is (.int .i64 (i : Int)))])
    (fun i => m.own.length - i) 0 ⟨rfl, Nat.zero_le _, Nat.zero_le _, by simp, rfl⟩ ⟨rfl, rfl, trivial⟩ ?_
  rintro i e k2 ⟨rfl, hi, h20, hno, rfl⟩
  repeat (first | refine cg_seq ?_ | refine cg_region ?_ | refine qsp ?_ | refine qsn ?_ | refine qsl ?_ | refine qsf ?_)
  by_cases hlt : i < m.own.length ∧ i < 100
  · obtain ⟨hlt, hlt2⟩ := hlt
    rw [show decide ((i : Int) < (m.own.length : Int)) = true by simp; exact hlt]
    repeat (first | refine rg_nil ?_ | refine eg_then ?_ | refine qsp ?_)
    rw [show decide ((i : Int) < 100) = true by simp; omega]
    repeat (first | refine cg_seq ?_ | refine cg_region ?_ | refine eg_then ?_ | refine qsp ?_ | refine qsl ?_ | refine qsf ?_ | refine cg_cond_true rfl ?_ | refine cg_skip ?_ | refine cg_block ?_)
    obtain ⟨bx, ox, cx, rfl, ⟨rfl, hz⟩, hcx⟩ := ho.el i m.own[i] (List.getElem?_eq_getElem hlt)
    obtain ⟨q0, q1, q2⟩ := Tp.parts (hcx.le hle5)
    repeat (first | refine qsi ?_ | refine qsl ?_ | refine qsf ?_)
    refine rs rfl rfl (loc_det rfl (d_len_str rfl rfl)) ?_
    repeat (first | refine rg_nil ?_ | refine eg_then ?_ | refine qsp ?_)
    refine cg_cond rfl (fun h => ?_) (fun h => ?_)
    · repeat (first | refine cg_seq ?_ | refine cg_region ?_ | refine rg_nil ?_ | refine eg_then ?_ | refine qsp ?_ | refine cg_ret ?_ | refine eg_then_ret ?_ | refine eg_in_ret ?_)
      refine eg_return rfl rfl ?_
      have h : 100 < m.own[i].topic.size := by simp at h; omega
      have hin : m.own[i] ∈ m.own.take 100 := List.mem_take_iff_getElem.2 ⟨i, by omega, rfl⟩
      have : fewM m = false := by
        unfold fewM
        rw [decide_eq_false_iff_not]
        intro hh
        have := hh.2.1 _ hin
        omega
      rw [this]
    · have h : m.own[i].topic.size ≤ 100 := by simp at h; omega
      repeat (first | refine cg_region ?_ | refine rg_nil ?_ | refine eg_then ?_ | refine qsp ?_ | refine qsa ?_ | refine cg_skip ?_ | refine eg_in_normal ?_)
      refine eg_again (i + 1) _ ⟨rfl, hlt, hlt2, fun x hx => ?_, rfl⟩ (by omega) ⟨rfl, rfl, trivial⟩
      rw [List.take_succ_eq_append_getElem hlt] at hx
      rcases List.mem_append.1 hx with hx | hx
      · exact hno x hx
      · simp at hx; rw [hx]; exact h
  have howns : ∀ t ∈ m.own.take 100, t.topic.size ≤ 100 := by
    by_cases h : i < m.own.length
    · have : i = 100 := by omega
      subst this; exact hno
    · have : i = m.own.length := by omega
      rw [this, List.take_length] at hno
      exact fun s hs => hno s (List.mem_of_mem_take hs)
  have hfm : fewM m = (decide ((m.id.size : Int) ≤ 100) && (decide ((m.static.size : Int) ≤ 100) && (decide ((m.subs.length : Int) ≤ 20) && decide ((m.own.length : Int) ≤ 100)))) := by
    unfold fewM
    rw [Bool.eq_iff_iff]
    simp only [Bool.and_eq_true, decide_eq_true_eq]
    constructor
    · rintro ⟨_, _, h1, h2, h3, h4⟩; exact ⟨by omega, by omega, by omega, by omega⟩
    · rintro ⟨h1, h2, h3, h4⟩; exact ⟨hsubs, howns, by omega, by omega, by omega, by omega⟩
  by_cases h : i < m.own.length
  · rw [show decide ((i : Int) < (m.own.length : Int)) = true by simp; exact h]
    repeat (first | refine rg_nil ?_ | refine eg_then ?_ | refine qsp ?_)
    rw [show decide ((i : Int) < 100) = false by simp; omega]
    repeat (first | refine cg_seq ?_ | refine cg_region ?_ | refine eg_then ?_ | refine qsl ?_ | refine qsf ?_ | refine cg_cond_false rfl ?_ | refine cg_exit ?_ | refine eg_then_exit ?_ | refine eg_in_exit ?_)
    rw [hfm]
    refine rs rfl rfl (loc_det rfl (d_len_str rfl rfl)) ?_
    repeat (first | refine qsp ?_)
    cases q1 : decide ((m.id.size : Int) ≤ 100)
    · repeat (first | refine rg_nil ?_ | refine eg_then ?_ | refine qsp ?_ | refine qso ?_ | refine cg_ret ?_)
      exact eg_return rfl rfl rfl
    repeat (first | refine qsl ?_ | refine qsf ?_)
    refine rs rfl rfl (loc_det rfl (d_len_str rfl rfl)) ?_
    repeat (first | refine qsp ?_)
    cases q2 : decide ((m.static.size : Int) ≤ 100)
    · repeat (first | refine rg_nil ?_ | refine eg_then ?_ | refine qsp ?_ | refine qso ?_ | refine cg_ret ?_)
      exact eg_return rfl rfl rfl
    repeat (first | refine qsp ?_ | refine qsn ?_ | refine qsl ?_ | refine qsf ?_)
    cases q3 : decide ((m.subs.length : Int) ≤ 20)
    · repeat (first | refine rg_nil ?_ | refine eg_then ?_ | refine qsp ?_ | refine qso ?_ | refine cg_ret ?_)
      exact eg_return rfl rfl rfl
    repeat (first | refine rg_nil ?_ | refine eg_then ?_ | refine qsp ?_ | refine qsn ?_ | refine qsl ?_ | refine qsf ?_ | refine cg_ret ?_)
    exact eg_return rfl rfl rfl
  · rw [show decide ((i : Int) < (m.own.length : Int)) = false by simp; omega]
    repeat (first | refine cg_seq ?_ | refine cg_region ?_ | refine rg_nil ?_ | refine eg_then ?_ | refine qsp ?_ | refine qsl ?_ | refine qsf ?_ | refine qso ?_ | refine cg_cond_false rfl ?_ | refine cg_exit ?_ | refine eg_then_exit ?_ | refine eg_in_exit ?_)
    rw [hfm]
    refine rs rfl rfl (loc_det rfl (d_len_str rfl rfl)) ?_
    repeat (first | refine qsp ?_)
    cases q1 : decide ((m.id.size : Int) ≤ 100)
    · repeat (first | refine rg_nil ?_ | refine eg_then ?_ | refine qsp ?_ | refine qso ?_ | refine cg_ret ?_)
      exact eg_return rfl rfl rfl
    repeat (first | refine qsl ?_ | refine qsf ?_)
    refine rs rfl rfl (loc_det rfl (d_len_str rfl rfl)) ?_
    repeat (first | refine qsp ?_)
    cases q2 : decide ((m.static.size : Int) ≤ 100)
    · repeat (first | refine rg_nil ?_ | refine eg_then ?_ | refine qsp ?_ | refine qso ?_ | refine cg_ret ?_)
      exact eg_return rfl rfl rfl
    repeat (first | refine qsp ?_ | refine qsn ?_ | refine qsl ?_ | refine qsf ?_)
    cases q3 : decide ((m.subs.length : Int) ≤ 20)
    · repeat (first | refine rg_nil ?_ | refine eg_then ?_ | refine qsp ?_ | refine qso ?_ | refine cg_ret ?_)
      exact eg_return rfl rfl rfl
    repeat (first | refine rg_nil ?_ | refine eg_then ?_ | refine qsp ?_ | refine qsn ?_ | refine qsl ?_ | refine qsf ?_ | refine cg_ret ?_)
    exact eg_return rfl rfl rfl
set_option maxHeartbeats 1000000 in
theorem fewG_ct {k : PH} {g : Group} {a : Option Addr} {c : Nat} (hl : Sl tMember k a c g.l) : CT Tryz.prog 23 #[.agg (g.cs a c).toArray] k (fun _ v => v = .bool (fewG g)) := by
  refine ct_of_body (l := [_]) Tryz.func23 rfl Tryz.ntmps23 (by simp) (fun _ _ _ _ h => h) fun F hF0 hFm => ?_
  have b1 := hl.cap; have b2 := hl.max; unfold maxLen at b2
  repeat (first | refine cg_seq ?_ | refine cg_region ?_)
  refine rb rfl rfl rfl rfl (a_box rfl rfl) ?_; intro b3 k3 hb3 hN3 hle3 hk3
  obtain ⟨p0, p1, p2, p3⟩ := Group.parts (cells_at (vs := g.cs a c) hk3 rfl)
  repeat (first | refine cg_seq ?_ | refine cg_region ?_ | refine rg_nil ?_ | refine eg_then ?_ | refine qsp ?_ | refine qsn ?_ | refine qsl ?_ | refine qsf ?_)
  refine cg_cond rfl (fun h => ?_) (fun h => ?_)
  · repeat (first | refine cg_seq ?_ | refine cg_region ?_ | refine rg_nil ?_ | refine eg_then ?_ | refine qsp ?_ | refine cg_ret ?_ | refine eg_then_ret ?_)
    refine eg_return rfl rfl ?_
    have h : 64 < g.l.length := by simp at h; omega
    unfold fewG
    rw [if_pos h]
  have h64 : ¬ 64 < g.l.length := by simp at h; omega
  repeat (first | refine cg_seq ?_ | refine cg_region ?_ | refine rg_nil ?_ | refine eg_then ?_ | refine qsp ?_ | refine cg_skip ?_ | refine cg_block ?_)
  refine cg_loop (fun (i : Nat) e k' => Le k3 k' ∧ i ≤ g.l.length ∧ (∀ x ∈ g.l.take i, fewM x = true) ∧ e = [(1, .is (.pointer (some ⟨b3, 0, none⟩))), (3, .is (.int .i64 (i : Int)))])
    (fun i => g.l.length - i) 0 ⟨Le.refl _, Nat.zero_le _, by simp, rfl⟩ ⟨rfl, rfl, trivial⟩ ?_
  rintro i e k1 ⟨hle1, hi, hno, rfl⟩
  have p3 := p3.le hle1
  have p0 := p0.le hle1
  repeat (first | refine cg_seq ?_ | refine cg_region ?_ | refine rg_nil ?_ | refine eg_then ?_ | refine qsp ?_ | refine qsn ?_ | refine qsl ?_ | refine qsf ?_)
  refine cg_cond rfl (fun h => ?_) (fun h => ?_)
  · have hlt : i < g.l.length := by simpa using h
    obtain ⟨bx, ox, cx, ea, hrep, hcx⟩ := hl.el i g.l[i] (List.getElem?_eq_getElem hlt)
    subst ea
    have hcx := hcx.le (hle3.trans hle1)
    have hrep := tMember.mono (hle3.trans hle1) hrep
    have hcl := tMember.len hrep
    have hf := fewM_ct hrep
    repeat (first | refine cg_seq ?_ | refine cg_region ?_ | refine eg_then ?_ | refine qsp ?_ | refine qsi ?_ | refine qsl ?_ | refine qsf ?_ | refine cg_skip ?_ | refine cg_block ?_)
    refine rs rfl rfl (loc_det rfl (d_load_agg (vs := cx) rfl rfl rfl hcl hcx)) ?_
    refine rs rfl rfl (loc_call_is rfl rfl rfl rfl (hf)) ?_
    repeat (first | refine cg_seq ?_ | refine cg_region ?_ | refine rg_nil ?_ | refine eg_then ?_ | refine qsp ?_)
    cases q : fewM g.l[i]
    · repeat (first | refine cg_seq ?_ | refine cg_region ?_ | refine rg_nil ?_ | refine eg_then ?_ | refine qsp ?_ | refine cg_cond_true rfl ?_ | refine cg_ret ?_ | refine eg_then_ret ?_ | refine eg_in_ret ?_)
      refine eg_return rfl rfl ?_
      unfold fewG
      rw [if_neg h64]
      have : g.l.all fewM = false := by
        rw [List.all_eq_false]
        exact ⟨_, List.getElem_mem hlt, by simp [q]⟩
      rw [this]; rfl
    · repeat (first | refine cg_region ?_ | refine rg_nil ?_ | refine eg_then ?_ | refine qsp ?_ | refine qsa ?_ | refine cg_cond_false rfl ?_ | refine cg_skip ?_ | refine eg_in_normal ?_)
      refine eg_again (i + 1) _ ⟨hle1, hlt, fun x hx => ?_, rfl⟩ (by omega) ⟨rfl, rfl, trivial⟩
      rw [List.take_succ_eq_append_getElem hlt] at hx
      rcases List.mem_append.1 hx with hx | hx
      · exact hno x hx
      · simp at hx; rw [hx]; exact q
  have hie : i = g.l.length := by simp at h; omega
  rw [hie, List.take_length] at hno
  have hall : g.l.all fewM = true := List.all_eq_true.2 hno
  have hd1 : decide (g.l.length ≤ 10) = decide ((g.l.length : Int) ≤ 10) := by rw [decide_eq_decide]; omega
  have hd2 : decide (g.name.size ≤ 100) = decide ((g.name.size : Int) ≤ 100) := by rw [decide_eq_decide]; omega
  unfold fewG
  rw [if_neg h64, hall, hd1, hd2]
  repeat (first | refine cg_seq ?_ | refine cg_region ?_ | refine eg_then ?_ | refine qsp ?_ | refine qsn ?_ | refine qsl ?_ | refine qsf ?_ | refine cg_exit ?_ | refine eg_then_exit ?_ | refine eg_in_exit ?_)
  cases q1 : decide ((g.l.length : Int) ≤ 10)
  · repeat (first | refine rg_nil ?_ | refine eg_then ?_ | refine qsp ?_ | refine qso ?_ | refine cg_ret ?_)
    exact eg_return rfl rfl rfl
  repeat (first | refine qsl ?_ | refine qsf ?_)
  refine rs rfl rfl (loc_det rfl (d_len_str rfl rfl)) ?_
  repeat (first | refine rg_nil ?_ | refine eg_then ?_ | refine qsp ?_ | refine cg_ret ?_)
  exact eg_return rfl rfl rfl
theorem few_ct {k : PH} {g : Group} {a : Option Addr} {c : Nat} (hl : Sl tMember k a c g.l) : CT Tryz.prog 6 #[.agg (g.cs a c).toArray] k (fun _ v => v = .bool (fewG g)) := by
  refine ct_of_body (l := [_]) Tryz.func6 rfl Tryz.ntmps6 (by simp) (fun _ _ _ _ h => h) fun F hF0 hFm => ?_
  repeat (first | refine cg_seq ?_ | refine cg_region ?_)
  refine rb rfl rfl rfl rfl (a_box rfl rfl) ?_; intro b3 k3 hb3 hN3 hle3 hk3
  have c3 := cells_at (vs := g.cs a c) hk3 rfl
  have hf := fewG_ct (hl.le hle3)
  repeat (first | refine cg_seq ?_ | refine cg_region ?_ | refine rg_nil ?_ | refine eg_then ?_ | refine qsp ?_ | refine qsg ?_)
  refine rs rfl rfl (loc_call_is rfl rfl rfl rfl (hf)) ?_
  repeat (first | refine rg_nil ?_ | refine eg_then ?_ | refine qsp ?_ | refine cg_ret ?_)
  exact eg_return rfl rfl rfl
end Go.Wm

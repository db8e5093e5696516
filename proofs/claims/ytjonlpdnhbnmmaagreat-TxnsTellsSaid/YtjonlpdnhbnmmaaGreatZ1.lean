/-
  What is hidden, left and shown, and which transactions batches make, the document's. Conditions: that what is handed in reads as data.
-/
import Derived.Test.YtjonlpdnhbnmmaaGreatY6
import Derived.Test.YtjonlpdnhbnmmaaGreatY9
import Derived.Test.YtjonlpdnhbnmmaaGreatQ4
set_option linter.all false
namespace Go.Wm
open Go.RowKit Go.Proofs
attribute [local irreducible] RG CG EG WA Loc Det Alc CT Exit.then Exit.inBlock Code.wp bodyPost
theorem slM {α : Type} {T : Ty α} {l : List α} : ∀ k k' v, Le k k' → (∃ a' c', v = Value.slice a' l.length c' ∧ Sl T k a' c' l) → ∃ a' c', v = Value.slice a' l.length c' ∧ Sl T k' a' c' l := fun k k' v hle ⟨a, c, h1, h2⟩ => ⟨a, c, h1, h2.le hle⟩
set_option maxHeartbeats 1000000 in
theorem refFrom_ct {k : PH} {a : Option Addr} {c : Nat} {l : List Gone} (start : Int) (hl : Sl tGone k a c l) (hb : l.length ≤ 1000000) :
    CT Tryz.prog 50 #[.slice a l.length c, .int .i64 start] k (fun k' v => ∃ a' c', v = .slice a' (trimL start l).length c' ∧ Sl tGone k' a' c' (trimL start l)) := by
  refine ct_of_body (l := [_, _]) Tryz.func50 rfl Tryz.ntmps50 (by simp) slM fun F hF0 hFm => ?_
  have b1 := hl.cap; have b2 := hl.max; unfold maxLen at b2
  repeat (first | refine cg_seq ?_ | refine cg_region ?_ | refine rg_nil ?_ | refine eg_then ?_ | refine qsp ?_ | refine cg_block ?_)
  refine cg_loop (fun (i : Nat) e k' => ∃ v, Le k k' ∧ Row F.w0.heap.size k' 74 4 v (trimL start (l.take i)).length ((trimL start (l.take i)).flatMap Gone.vs) ∧ Apart k v ∧ i ≤ l.length ∧ e = [(0, .is (.slice a l.length c)), (1, .is (.int .i64 start)), (5, .is v), (6, .is (.int .i64 (i : Int)))])
    (fun i => l.length - i) 0 ⟨.slice none 0 0, Le.refl _, row_nil _ _ _ _, apart_nil _ _ _, Nat.zero_le _, rfl⟩ ⟨rfl, rfl, rfl, rfl, trivial⟩ ?_
  rintro i e k1 ⟨v, hle, hrow, hap, hi, rfl⟩
  have hfl := filter_take_len (fun g : Gone => !decide (g.last < start)) l i
  change (trimL start (l.take i)).length ≤ l.length at hfl
  repeat (first | refine cg_seq ?_ | refine cg_region ?_ | refine rg_nil ?_ | refine eg_then ?_ | refine qsp ?_ | refine qsn ?_)
  refine cg_cond rfl (fun h => ?_) (fun h => ?_)
  · have hlt : i < l.length := by simpa using h
    obtain ⟨bx, ox, cx, rfl, ⟨rfl, hok⟩, hcx⟩ := hl.el i l[i] (List.getElem?_eq_getElem hlt)
    have hcx := hcx.le hle
    obtain ⟨g0, g1, g2, g3⟩ := Gone.parts hcx
    have hcx' := hcx
    have hsu := filter_take_succ (p := fun g : Gone => !decide (g.last < start)) hlt
    change trimL start (l.take (i + 1)) = trimL start (l.take i) ++ _ at hsu
    repeat (first | refine cg_seq ?_ | refine cg_region ?_ | refine rg_nil ?_ | refine eg_then ?_ | refine qsp ?_ | refine qsi ?_ | refine qsl ?_ | refine qsf ?_ | refine cg_skip ?_ | refine cg_block ?_)
    cases q : decide (l[i].last ≥ start)
    · repeat (first | refine cg_region ?_ | refine rg_nil ?_ | refine eg_then ?_ | refine qsp ?_ | refine qsa ?_ | refine cg_cond_false rfl ?_ | refine cg_skip ?_ | refine eg_in_normal ?_)
      have e : trimL start (l.take (i + 1)) = trimL start (l.take i) := by
        rw [hsu, if_neg (by simp at q; simp; omega), List.append_nil]
      exact eg_again (i + 1) _ ⟨v, hle, by rw [e]; exact hrow, hap, hlt, rfl⟩ (by omega) ⟨rfl, rfl, rfl, rfl, trivial⟩
    · rw [if_pos (by simp at q; simp; omega)] at hsu
      repeat (first | refine cg_region ?_ | refine qsp ?_ | refine qsi ?_ | refine qsg ?_ | refine cg_cond_true rfl ?_)
      refine rb rfl rfl rfl rfl (a_slice (cells := l[i].vs) rfl rfl rfl rfl (by kernel_rfl) rfl) ?_
      intro b11 k11 hb11 hN11 hle11 hk11
      have c11 := cells_at (vs := l[i].vs) hk11 rfl
      refine rap rfl rfl rfl rfl rfl rfl rfl (hrow.le hle11) c11 rfl (by simp [Gone.vs, Value.oneCell']) rfl rfl (by unfold maxLen; omega) (by omega) ?_
      intro v' k12 hrow12 hturn
      obtain ⟨hle12, hap12⟩ := hturn k (hle.trans hle11) hap
      repeat (first | refine cg_region ?_ | refine rg_nil ?_ | refine eg_then ?_ | refine qsp ?_ | refine qsa ?_ | refine eg_in_normal ?_)
      refine eg_again (i + 1) _ ⟨v', hle12, ?_, hap12, hlt, rfl⟩ (by omega) ⟨rfl, rfl, rfl, rfl, trivial⟩
      rw [hsu, List.length_append, List.flatMap_append]
      simpa using hrow12
  · have hil : i = l.length := by simp at h; omega
    rw [hil, List.take_length] at hrow
    obtain ⟨ai, ci, rfl, hsl⟩ := Row.sl (T := tGone) hrow (fun m hm => by
      have hm' := (List.mem_filter.1 hm).1
      obtain ⟨j, hj, rfl⟩ := List.getElem_of_mem hm'
      obtain ⟨_, _, _, _, ⟨_, h⟩, _⟩ := hl.el j l[j] (List.getElem?_eq_getElem hj)
      exact ⟨rfl, h⟩)
    repeat (first | refine cg_seq ?_ | refine cg_region ?_ | refine rg_nil ?_ | refine eg_then ?_ | refine qsp ?_ | refine cg_ret ?_ | refine cg_exit ?_ | refine eg_then_exit ?_ | refine eg_in_exit ?_)
    exact eg_return rfl rfl ⟨ai, ci, rfl, hsl⟩
set_option maxHeartbeats 1000000 in
theorem refHidden_ct {k : PH} {t : Tx} {a0 a1 a2 : Option Addr} {c0 c1 c2 : Nat} (start to : Int) (hl : Sl tGone k a1 c1 t.gone) (hb : t.gone.length ≤ 1000000) :
    CT Tryz.prog 11 #[.agg (t.cs a0 c0 a1 c1 a2 c2).toArray, .int .i64 start, .int .i64 to] k (fun k' v => ∃ a' c', v = .slice a' (hiddenL t start to).length c' ∧ Sl tGone k' a' c' (hiddenL t start to)) := by
  refine ct_of_body (l := [_, _, _]) Tryz.func11 rfl Tryz.ntmps11 (by simp) slM fun F hF0 hFm => ?_
  have b1 := hl.cap; have b2 := hl.max; unfold maxLen at b2
  repeat (first | refine cg_seq ?_ | refine cg_region ?_)
  refine rb rfl rfl rfl rfl (a_box rfl rfl) ?_; intro b3 k3 hb3 hN3 hle3 hk3
  have ct := cells_at (vs := t.cs a0 c0 a1 c1 a2 c2) hk3 rfl
  have hl := hl.le hle3
  unfold hiddenL
  obtain ⟨P, hP⟩ : ∃ P : Gone → Bool, P = fun g => !farG start to g := ⟨_, rfl⟩
  rw [← hP]
  generalize hgl : t.gone = l at hl hb b1 ct ⊢
  repeat (first | refine cg_seq ?_ | refine cg_region ?_ | refine rg_nil ?_ | refine eg_then ?_ | refine qsp ?_ | refine cg_block ?_)
  refine cg_loop (fun (i : Nat) e k' => ∃ v, Le k3 k' ∧ Row F.w0.heap.size k' 74 4 v ((l.take i).filter P).length (((l.take i).filter P).flatMap Gone.vs) ∧ Apart k3 v ∧ i ≤ l.length ∧ e = [(1, .is (.int .i64 start)), (2, .is (.int .i64 to)), (3, .is (.pointer (some ⟨b3, 0, none⟩))), (7, .is v), (8, .is (.int .i64 (i : Int)))])
    (fun i => l.length - i) 0 ⟨.slice none 0 0, Le.refl _, row_nil _ _ _ _, apart_nil _ _ _, Nat.zero_le _, rfl⟩ ⟨rfl, rfl, rfl, rfl, rfl, trivial⟩ ?_
  rintro i e k1 ⟨v, hle, hrow, hap, hi, rfl⟩
  have hfl := filter_take_len P l i
  obtain ⟨z0, z1, z2⟩ := Tx.parts (ct.le hle)
  rw [hgl] at z1
  repeat (first | refine cg_seq ?_ | refine cg_region ?_ | refine rg_nil ?_ | refine eg_then ?_ | refine qsp ?_ | refine qsn ?_ | refine qsl ?_ | refine qsf ?_)
  refine cg_cond rfl (fun h => ?_) (fun h => ?_)
  · have hlt : i < l.length := by simpa using h
    obtain ⟨bx, ox, cx, rfl, ⟨rfl, hok⟩, hcx⟩ := hl.el i l[i] (List.getElem?_eq_getElem hlt)
    have hcx := hcx.le hle
    obtain ⟨g0, g1, g2, g3⟩ := Gone.parts hcx
    have hcx' := hcx
    have hsu := filter_take_succ (p := P) hlt
    repeat (first | refine cg_seq ?_ | refine cg_region ?_ | refine eg_then ?_ | refine qsp ?_ | refine qsi ?_ | refine qsl ?_ | refine qsf ?_ | refine cg_skip ?_ | refine cg_block ?_)
    cases q : decide (l[i].last ≥ start)
    · have hw : P l[i] = false := by rw [hP]; simp at q; simp [farG, q]
      repeat (first | refine cg_region ?_ | refine rg_nil ?_ | refine eg_then ?_ | refine qsp ?_ | refine qsa ?_ | refine qso ?_ | refine cg_cond_false rfl ?_ | refine cg_skip ?_ | refine eg_in_normal ?_)
      have e : (l.take (i + 1)).filter P = (l.take i).filter P := by
        rw [hsu, if_neg (by rw [hw]; decide), List.append_nil]
      exact eg_again (i + 1) _ ⟨v, hle, by rw [e]; exact hrow, hap, hlt, rfl⟩ (by omega) ⟨rfl, rfl, rfl, rfl, rfl, trivial⟩
    repeat (first | refine rg_nil ?_ | refine eg_then ?_ | refine qsp ?_ | refine qsi ?_ | refine qsl ?_ | refine qsf ?_)
    cases q2 : decide (l[i].first < to)
    · have hw : P l[i] = false := by rw [hP]; simp at q2; simp [farG]; omega
      repeat (first | refine cg_region ?_ | refine rg_nil ?_ | refine eg_then ?_ | refine qsp ?_ | refine qsa ?_ | refine cg_cond_false rfl ?_ | refine cg_skip ?_ | refine eg_in_normal ?_)
      have e : (l.take (i + 1)).filter P = (l.take i).filter P := by
        rw [hsu, if_neg (by rw [hw]; decide), List.append_nil]
      exact eg_again (i + 1) _ ⟨v, hle, by rw [e]; exact hrow, hap, hlt, rfl⟩ (by omega) ⟨rfl, rfl, rfl, rfl, rfl, trivial⟩
    · have hw : P l[i] = true := by rw [hP]; simp at q q2; simp [farG]; omega
      rw [if_pos hw] at hsu
      repeat (first | refine cg_region ?_ | refine qsp ?_ | refine qsi ?_ | refine qsl ?_ | refine qsg ?_ | refine qsf ?_ | refine cg_cond_true rfl ?_)
      refine rb rfl rfl rfl rfl (a_slice (cells := l[i].vs) rfl rfl rfl rfl (by kernel_rfl) rfl) ?_
      intro b11 k11 hb11 hN11 hle11 hk11
      have c11 := cells_at (vs := l[i].vs) hk11 rfl
      refine rap rfl rfl rfl rfl rfl rfl rfl (hrow.le hle11) c11 rfl (by simp [Gone.vs, Value.oneCell']) rfl rfl (by unfold maxLen; omega) (by omega) ?_
      intro v' k12 hrow12 hturn
      obtain ⟨hle12, hap12⟩ := hturn k3 (hle.trans hle11) hap
      repeat (first | refine cg_region ?_ | refine rg_nil ?_ | refine eg_then ?_ | refine qsp ?_ | refine qsa ?_ | refine eg_in_normal ?_)
      refine eg_again (i + 1) _ ⟨v', hle12, ?_, hap12, hlt, rfl⟩ (by omega) ⟨rfl, rfl, rfl, rfl, rfl, trivial⟩
      rw [hsu, List.length_append, List.flatMap_append]
      simpa using hrow12
  · have hil : i = l.length := by simp at h; omega
    rw [hil, List.take_length] at hrow
    obtain ⟨ai, ci, rfl, hsl⟩ := Row.sl (T := tGone) hrow (fun m hm => by
      have hm' := (List.mem_filter.1 hm).1
      obtain ⟨j, hj, rfl⟩ := List.getElem_of_mem hm'
      obtain ⟨_, _, _, _, ⟨_, h⟩, _⟩ := hl.el j l[j] (List.getElem?_eq_getElem hj)
      exact ⟨rfl, h⟩)
    repeat (first | refine cg_seq ?_ | refine cg_region ?_ | refine rg_nil ?_ | refine eg_then ?_ | refine qsp ?_ | refine cg_ret ?_ | refine cg_exit ?_ | refine eg_then_exit ?_ | refine eg_in_exit ?_)
    exact eg_return rfl rfl ⟨ai, ci, rfl, hsl⟩
set_option maxHeartbeats 1000000 in
theorem hid_ct {k : PH} {a : Option Addr} {c : Nat} {l : List Gone} (b : Batch) (ab : Option Addr) (cb : Nat) (hl : Sl tGone k a c l) :
    CT Tryz.prog 47 #[.agg (b.cs ab cb).toArray, .slice a l.length c] k (fun _ v => v = .bool (l.any (isP b))) := by
  refine ct_of_body (l := [_, _]) Tryz.func47 rfl Tryz.ntmps47 (by simp) (fun _ _ _ _ h => h) fun F hF0 hFm => ?_
  have b1 := hl.cap; have b2 := hl.max; unfold maxLen at b2
  repeat (first | refine cg_seq ?_ | refine cg_region ?_)
  refine rb rfl rfl rfl rfl (a_box rfl rfl) ?_; intro b3 k3 hb3 hN3 hle3 hk3
  have cb3 := cells_at (vs := b.cs ab cb) hk3 rfl
  have hl := hl.le hle3
  repeat (first | refine cg_seq ?_ | refine cg_region ?_ | refine rg_nil ?_ | refine eg_then ?_ | refine qsp ?_ | refine cg_block ?_)
  refine cg_loop (fun (i : Nat) e k' => k' = k3 ∧ i ≤ l.length ∧ (∀ g ∈ l.take i, isP b g = false) ∧ e = [(1, .is (.slice a l.length c)), (2, .is (.pointer (some ⟨b3, 0, none⟩))), (5, .is (.int .i64 (i : Int)))])
    (fun i => l.length - i) 0 ⟨rfl, Nat.zero_le _, by simp, rfl⟩ ⟨rfl, rfl, rfl, trivial⟩ ?_
  rintro i e k1 ⟨rfl, hi, hno, rfl⟩
  repeat (first | refine cg_seq ?_ | refine cg_region ?_ | refine rg_nil ?_ | refine eg_then ?_ | refine qsp ?_ | refine qsn ?_)
  refine cg_cond rfl (fun h => ?_) (fun h => ?_)
  · have hlt : i < l.length := by simpa using h
    obtain ⟨bx, ox, cx, rfl, ⟨rfl, hok⟩, hcx⟩ := hl.el i l[i] (List.getElem?_eq_getElem hlt)
    have hs : CT Tryz.prog 78 #[.agg (b.cs ab cb).toArray, .agg l[i].vs.toArray] k1 (fun _ v => v = .bool (isP b l[i])) := isGone_ct b ab cb l[i]
    repeat (first | refine cg_seq ?_ | refine eg_then ?_ | refine cg_skip ?_ | refine cg_block ?_)
    refine cg_any (by kernel_rfl) rfl ?_
    repeat (first | refine qwp ?_ | refine qwi ?_ | refine qwg ?_)
    refine ws rfl (loc_call_is rfl rfl rfl rfl (hs)) ?_
    repeat (first | (refine wn rfl ?_; refine eg_then ?_))
    cases q : isP b l[i]
    · repeat (first | refine cg_region ?_ | refine rg_nil ?_ | refine eg_then ?_ | refine qsp ?_ | refine qsa ?_ | refine cg_cond_false rfl ?_ | refine cg_skip ?_ | refine eg_in_normal ?_)
      refine eg_again (i + 1) _ ⟨rfl, hlt, fun g hg => ?_, rfl⟩ (by omega) ⟨rfl, rfl, rfl, trivial⟩
      rw [List.take_succ_eq_append_getElem hlt] at hg
      rcases List.mem_append.1 hg with hg | hg
      · exact hno g hg
      · simp at hg; subst hg; exact q
    · repeat (first | refine cg_seq ?_ | refine cg_region ?_ | refine rg_nil ?_ | refine eg_then ?_ | refine qsp ?_ | refine cg_cond_true rfl ?_ | refine cg_ret ?_ | refine eg_then_ret ?_ | refine eg_in_ret ?_)
      refine eg_return rfl rfl ?_
      rw [List.any_eq_true.2 ⟨l[i], List.getElem_mem hlt, q⟩]
  · have hil : i = l.length := by simp at h; omega
    subst hil
    rw [List.take_length] at hno
    repeat (first | refine cg_seq ?_ | refine cg_region ?_ | refine rg_nil ?_ | refine eg_then ?_ | refine qsp ?_ | refine cg_ret ?_ | refine cg_exit ?_ | refine eg_then_exit ?_ | refine eg_in_exit ?_)
    refine eg_return rfl rfl ?_
    rw [List.any_eq_false.2 fun g hg => by rw [hno g hg]; decide]
set_option maxHeartbeats 1000000 in
theorem refShow_ct {k : PH} {a a2 : Option Addr} {c c2 : Nat} {l : List Batch} {gone : List Gone} (to : Int) (hl : Sl tBatch k a c l) (hg : Sl tGone k a2 c2 gone) (hb : l.length ≤ 10000) :
    CT Tryz.prog 14 #[.slice a l.length c, .slice a2 gone.length c2, .int .i64 to] k (fun k' v => ∃ a' c', v = .slice a' (l.filter (showB gone to)).length c' ∧ Sl tBatch k' a' c' (l.filter (showB gone to))) := by
  refine ct_of_body (l := [_, _, _]) Tryz.func14 rfl Tryz.ntmps14 (by simp) slM fun F hF0 hFm => ?_
  have b1 := hl.cap; have b2 := hl.max; unfold maxLen at b2
  repeat (first | refine cg_seq ?_ | refine cg_region ?_ | refine rg_nil ?_ | refine eg_then ?_ | refine qsp ?_ | refine cg_block ?_)
  refine cg_loop (fun (i : Nat) e k' => ∃ v css, Le k k' ∧ Row F.w0.heap.size k' 45 10 v ((l.take i).filter (showB gone to)).length css.flatten ∧ Pieces tBatch k css ((l.take i).filter (showB gone to)) ∧ Apart k v ∧ i ≤ l.length ∧ e = [(0, .is (.slice a l.length c)), (1, .is (.slice a2 gone.length c2)), (2, .is (.int .i64 to)), (7, .is v), (8, .is (.int .i64 (i : Int)))])
    (fun i => l.length - i) 0 ⟨.slice none 0 0, [], Le.refl _, row_nil _ _ _ _, Pieces.nil _ _, apart_nil _ _ _, Nat.zero_le _, rfl⟩ ⟨rfl, rfl, rfl, rfl, rfl, trivial⟩ ?_
  rintro i e k1 ⟨v, css, hle, hrow, hp, hap, hi, rfl⟩
  have hfl := filter_take_len (showB gone to) l i
  repeat (first | refine cg_seq ?_ | refine cg_region ?_ | refine rg_nil ?_ | refine eg_then ?_ | refine qsp ?_ | refine qsn ?_)
  refine cg_cond rfl (fun h => ?_) (fun h => ?_)
  · have hlt : i < l.length := by simpa using h
    obtain ⟨bx, ox, cx, rfl, hrep, hcx⟩ := hl.el i l[i] (List.getElem?_eq_getElem hlt)
    obtain ⟨ra, rc, rfl, hr, hok⟩ := id hrep
    have hcx := hcx.le hle
    obtain ⟨p0, p1, p2, p3, p4, p5, p6, p7, p8, p9⟩ := Batch.parts hcx
    have hcx' := hcx
    have hsu := filter_take_succ (p := showB gone to) hlt
    repeat (first | refine cg_seq ?_ | refine cg_region ?_ | refine eg_then ?_ | refine qsp ?_ | refine qsi ?_ | refine qsl ?_ | refine qsf ?_ | refine cg_skip ?_ | refine cg_block ?_)
    cases q3 : (l[i].ctl == 0)
    · simp at q3
      have hw : showB gone to l[i] = false := by simp [showB, q3]
      repeat (first | refine cg_region ?_ | refine rg_nil ?_ | refine eg_then ?_ | refine qsp ?_ | refine qsa ?_ | refine qso ?_ | refine cg_cond_false rfl ?_ | refine cg_skip ?_ | refine eg_in_normal ?_)
      refine eg_again (i + 1) _ ⟨v, css, hle, ?_, ?_, hap, hlt, rfl⟩ (by omega) ⟨rfl, rfl, rfl, rfl, rfl, trivial⟩
      · rw [hsu, if_neg (by rw [hw]; decide), List.append_nil]; exact hrow
      · rw [hsu, if_neg (by rw [hw]; decide), List.append_nil]; exact hp
    simp at q3
    repeat (first | refine qsp ?_ | refine qsi ?_ | refine qsl ?_ | refine qsf ?_)
    cases q4 : decide (l[i].last < to)
    · have hw : showB gone to l[i] = false := by simp [showB, q4]
      repeat (first | refine cg_region ?_ | refine rg_nil ?_ | refine eg_then ?_ | refine qsp ?_ | refine qsa ?_ | refine qso ?_ | refine cg_cond_false rfl ?_ | refine cg_skip ?_ | refine eg_in_normal ?_)
      refine eg_again (i + 1) _ ⟨v, css, hle, ?_, ?_, hap, hlt, rfl⟩ (by omega) ⟨rfl, rfl, rfl, rfl, rfl, trivial⟩
      · rw [hsu, if_neg (by rw [hw]; decide), List.append_nil]; exact hrow
      · rw [hsu, if_neg (by rw [hw]; decide), List.append_nil]; exact hp
    repeat (first | refine qsp ?_ | refine qsi ?_ | refine qsg ?_)
    refine rs rfl rfl (loc_call_is rfl rfl rfl rfl (hid_ct l[i] ra rc (hg.le hle))) ?_
    repeat (first | refine rg_nil ?_ | refine eg_then ?_ | refine qsp ?_)
    cases q5 : gone.any (isP l[i])
    rotate_left
    · have hw : showB gone to l[i] = false := by simp [showB, q5]
      repeat (first | refine cg_region ?_ | refine rg_nil ?_ | refine eg_then ?_ | refine qsp ?_ | refine qsa ?_ | refine cg_cond_false rfl ?_ | refine cg_skip ?_ | refine eg_in_normal ?_)
      refine eg_again (i + 1) _ ⟨v, css, hle, ?_, ?_, hap, hlt, rfl⟩ (by omega) ⟨rfl, rfl, rfl, rfl, rfl, trivial⟩
      · rw [hsu, if_neg (by rw [hw]; decide), List.append_nil]; exact hrow
      · rw [hsu, if_neg (by rw [hw]; decide), List.append_nil]; exact hp
    have hw : showB gone to l[i] = true := by simp [showB, q3, q4, q5]
    rw [if_pos hw] at hsu
    repeat (first | refine cg_region ?_ | refine qsp ?_ | refine qsi ?_ | refine qsg ?_ | refine cg_cond_true rfl ?_)
    refine rb rfl rfl rfl rfl (a_slice (cells := l[i].cs ra rc) rfl rfl rfl rfl (by kernel_rfl) rfl) ?_
    intro b11 k11 hb11 hN11 hle11 hk11
    have c11 := cells_at (vs := l[i].cs ra rc) hk11 rfl
    refine rap rfl rfl rfl rfl rfl rfl rfl (hrow.le hle11) c11 rfl (by simp [Batch.cs, Value.oneCell']) rfl rfl (by unfold maxLen; omega) (by omega) ?_
    intro v' k12 hrow12 hturn
    obtain ⟨hle12, hap12⟩ := hturn k (hle.trans hle11) hap
    repeat (first | refine cg_region ?_ | refine rg_nil ?_ | refine eg_then ?_ | refine qsp ?_ | refine qsa ?_ | refine eg_in_normal ?_)
    refine eg_again (i + 1) _ ⟨v', css ++ [l[i].cs ra rc], hle12, ?_, ?_, hap12, hlt, rfl⟩ (by omega) ⟨rfl, rfl, rfl, rfl, rfl, trivial⟩
    · rw [hsu, List.length_append, List.flatten_append]
      simpa using hrow12
    · rw [hsu]
      exact hp.append (Pieces.one hrep)
  · have hil : i = l.length := by simp at h; omega
    rw [hil, List.take_length] at hrow hp
    obtain ⟨al, cl, rfl, hL⟩ := Row.sls (T := tBatch) hrow (hp.le hle)
    repeat (first | refine cg_seq ?_ | refine cg_region ?_ | refine rg_nil ?_ | refine eg_then ?_ | refine qsp ?_ | refine cg_ret ?_ | refine cg_exit ?_ | refine eg_then_exit ?_ | refine eg_in_exit ?_)
    exact eg_return rfl rfl ⟨al, cl, rfl, hL⟩
end Go.Wm

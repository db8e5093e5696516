/-
  What was told of batches, and whether a batch is of a transaction that was committed, the law's own (layer 32). Conditions: that what is handed in reads as data, and that numbers are in reach.
-/
import Derived.Test.YtjonlpdnhbnmmaaGreatU0
import Derived.Test.YtjonlpdnhbnmmaaGreatQ2
set_option linter.all false
namespace Go.Wm
open Go.RowKit Go.Proofs
attribute [local irreducible] RG CG EG WA Loc Det Alc CT Exit.then Exit.inBlock Code.wp bodyPost
def toldB (tp : Tp) (b : Batch) (r : Rec) : Told := ⟨tp, r.off, b.fromV + r.off - b.base, r⟩
def heardL (l : List Batch) (tp : Tp) : List Told := l.flatMap fun b => b.recs.map (toldB tp b)
theorem heard_succ {l : List Batch} {tp : Tp} {i : Nat} (h : i < l.length) : heardL (l.take (i + 1)) tp = heardL (l.take i) tp ++ l[i].recs.map (toldB tp l[i]) := by
  unfold heardL
  rw [List.take_succ_eq_append_getElem h, List.flatMap_append]; simp
theorem heard_len {l : List Batch} {tp : Tp} (h : ∀ b ∈ l, b.recs.length ≤ 100) : (heardL l tp).length ≤ 100 * l.length := by
  induction l with
  | nil => simp [heardL]
  | cons b l ih =>
    have h1 := ih fun x hx => h x (by simp [hx])
    have h2 := h b (by simp)
    have e : heardL (b :: l) tp = b.recs.map (toldB tp b) ++ heardL l tp := rfl
    rw [e, List.length_append, List.length_map, List.length_cons]
    omega
/-- The numbers of a batch are in reach. -/
def NumB (b : Batch) : Prop := 0 ≤ b.fromV ∧ b.fromV ≤ 1099511627776 ∧ 0 ≤ b.base ∧ b.base ≤ 1099511627776 ∧ ∀ r ∈ b.recs, b.base ≤ r.off ∧ r.off ≤ 1099511627776
theorem recs_in : ∀ {l : List Rec} {hi lo : Int}, recsP hi lo l = true → ∀ r ∈ l, lo < r.off ∧ r.off ≤ hi
  | [], _, _, _, r, hr => by cases hr
  | x :: l, hi, lo, h, r, hr => by
    simp only [recsP, Bool.and_eq_true, decide_eq_true_eq] at h
    rcases List.mem_cons.1 hr with rfl | hr
    · exact h.1.2
    · have := recs_in h.2 r hr
      exact ⟨by have := h.1.2.1; omega, this.2⟩
theorem recs_rise : ∀ {l : List Rec} {hi lo : Int}, recsP hi lo l = true → l.Pairwise fun x y => x.off < y.off
  | [], _, _, _ => List.Pairwise.nil
  | x :: l, hi, lo, h => by
    simp only [recsP, Bool.and_eq_true, decide_eq_true_eq] at h
    exact List.pairwise_cons.2 ⟨fun y hy => (recs_in h.2 y hy).1, recs_rise h.2⟩
theorem chk_recs {b : Batch} (h : chkB b = 0) : recsP b.last (b.base - 1) b.recs = true := by
  have f := chk_form h
  by_cases e : b.ctl = 0
  · exact f.recs e
  · have := (f.ctl e).2.2.1
    rw [List.length_eq_zero_iff.1 this]; rfl
theorem chk_num {b : Batch} (h : chkB b = 0) : NumB b := by
  have f := chk_form h
  refine ⟨f.fromV.1, f.fromV.2, f.base.1, f.base.2, fun r hr => ?_⟩
  have := recs_in (chk_recs h) r hr
  have := f.last.2
  omega
set_option maxHeartbeats 4000000 in
theorem heard_ct {k : PH} {a : Option Addr} {c : Nat} {l : List Batch} (tp : Tp) (htp : tp.ok) (hl : Sl tBatch k a c l) (hn : ∀ b ∈ l, NumB b) (h100 : ∀ b ∈ l, b.recs.length ≤ 100) (hb : l.length ≤ 1000) :
    CT Tryz.prog 26 #[.slice a l.length c, .agg tp.vs.toArray] k (fun k' v => ∃ a' c', v = .slice a' (heardL l tp).length c' ∧ Sl tTold k' a' c' (heardL l tp)) := by
  refine ct_of_body (l := [_, _]) Tryz.func26 rfl Tryz.ntmps26 (by simp) (fun k k' v hle ⟨a, c, h1, h2⟩ => ⟨a, c, h1, h2.le hle⟩) fun F hF0 hFm => ?_
  have b1 := hl.cap; have b2 := hl.max; unfold maxLen at b2
  repeat (first | refine cg_seq ?_ | refine cg_region ?_)
  refine rb rfl rfl rfl rfl (a_box rfl rfl) ?_; intro b3 k3 hb3 hN3 hle3 hk3
  have ctp := cells_at (vs := tp.vs) hk3 rfl
  have hl := hl.le hle3
  repeat (first | refine cg_seq ?_ | refine cg_region ?_ | refine rg_nil ?_ | refine eg_then ?_ | refine qsp ?_ | refine cg_block ?_)
  refine cg_loop (fun (i : Nat) e k' => ∃ v, Le k3 k' ∧ Row F.w0.heap.size k' 63 10 v (heardL (l.take i) tp).length ((heardL (l.take i) tp).flatMap Told.vs) ∧ Apart k3 v ∧ i ≤ l.length ∧ e = [(0, .is (.slice a l.length c)), (3, .is (.pointer (some ⟨b3, 0, none⟩))), (5, .is v), (6, .is (.int .i64 (i : Int)))])
    (fun i => l.length - i) 0 ⟨.slice none 0 0, Le.refl _, row_nil _ _ _ _, apart_nil _ _ _, Nat.zero_le _, rfl⟩ ⟨rfl, rfl, rfl, rfl, trivial⟩ ?_
  rintro i e k1 ⟨v, hle, hrow, hap, hi, rfl⟩
  repeat (first | refine cg_seq ?_ | refine cg_region ?_ | refine rg_nil ?_ | refine eg_then ?_ | refine qsp ?_ | refine qsn ?_)
  refine cg_cond rfl (fun h => ?_) (fun h => ?_)
  · have hlt : i < l.length := by simpa using h
    obtain ⟨bx, ox, cx, rfl, ⟨ra, rc, rfl, hr, hok⟩, hcx⟩ := hl.el i l[i] (List.getElem?_eq_getElem hlt)
    obtain ⟨n1, n2, n3, n4, n5⟩ := hn l[i] (List.getElem_mem hlt)
    have h100' := h100 l[i] (List.getElem_mem hlt)
    have hsu := heard_succ (tp := tp) hlt
    have hHl : (heardL (l.take i) tp).length ≤ 100 * 1000 := by
      have := heard_len (l := l.take i) (tp := tp) (fun b hb => h100 b (List.mem_of_mem_take hb))
      rw [List.length_take] at this
      omega
    generalize hbi : l[i] = b at hsu hr hok hcx n1 n2 n3 n4 n5 h100'
    generalize heardL (l.take i) tp = X at hsu hrow hHl
    have c1 := hr.cap; have c2 := hr.max; unfold maxLen at c2
    repeat (first | refine cg_seq ?_ | refine cg_region ?_ | refine rg_nil ?_ | refine eg_then ?_ | refine qsp ?_ | refine cg_skip ?_ | refine cg_block ?_)
    refine cg_loop (fun (q : Nat) e k' => ∃ v, Le k3 k' ∧ Row F.w0.heap.size k' 63 10 v (X ++ (b.recs.take q).map (toldB tp b)).length ((X ++ (b.recs.take q).map (toldB tp b)).flatMap Told.vs) ∧ Apart k3 v ∧ q ≤ b.recs.length ∧ e = [(0, .is (.slice (some ⟨bx, ox, none⟩) l.length c)), (3, .is (.pointer (some ⟨b3, 0, none⟩))), (5, .is v), (6, .is (.int .i64 (i : Int))), (7, .is (.int .i64 (q : Int)))])
      (fun q => b.recs.length - q) 0 ⟨v, hle, by simpa using hrow, hap, Nat.zero_le _, rfl⟩ ⟨rfl, rfl, rfl, rfl, rfl, trivial⟩ ?_
    clear hrow hap hle
    rintro q e k2 ⟨v, hle, hrow, hap, hq, rfl⟩
    have hcx2 := hcx.le hle
    obtain ⟨p0, p1, p2, p3, p4, p5, p6, p7, p8, p9⟩ := Batch.parts hcx2
    repeat (first | refine cg_seq ?_ | refine cg_region ?_ | refine rg_nil ?_ | refine eg_then ?_ | refine qsp ?_ | refine qsn ?_ | refine qsi ?_ | refine qsl ?_ | refine qsf ?_)
    refine cg_cond rfl (fun h2 => ?_) (fun h2 => ?_)
    · have hqt : q < b.recs.length := by simpa using h2
      obtain ⟨by', oy, cy, rfl, ⟨rfl, hrok⟩, hcy⟩ := (hr.le hle).el q b.recs[q] (List.getElem?_eq_getElem hqt)
      obtain ⟨m1, m2⟩ := n5 b.recs[q] (List.getElem_mem hqt)
      have hXl : (X ++ (b.recs.take q).map (toldB tp b)).length ≤ 100100 := by
        rw [List.length_append, List.length_map, List.length_take]; omega
      have hs2 : (b.recs.take (q + 1)).map (toldB tp b) = (b.recs.take q).map (toldB tp b) ++ [toldB tp b b.recs[q]] := by
        rw [List.take_succ_eq_append_getElem hqt, List.map_append]; rfl
      generalize hrq : b.recs[q] = r at hrok hcy m1 m2 hs2
      repeat (first | refine cg_seq ?_ | refine cg_region ?_ | refine eg_then ?_ | refine qsp ?_ | refine qsi ?_ | refine qsl ?_ | refine qsg ?_ | refine qsf ?_ | refine cg_skip ?_ | refine cg_block ?_)
      refine rb rfl rfl rfl rfl (a_alloc rfl) ?_; intro b8 k8 hb8 hN8 hle8 hk8
      refine rw1 (vs := r.vs) rfl rfl rfl rfl rfl rfl rfl hk8 rfl (.inl hN8) ?_ ?_
      · simp [Rec.vs, Value.oneCell']
      intro k9 ht9 hk9
      have hle9 : Le k2 k9 := ht9 k2 hle8 hb8
      have cr := cells_at (vs := r.vs) hk9 rfl
      have hrow9 := hrow.le hle9
      have hv8 : v.ownBlock ≠ some b8 := fun e => by obtain ⟨_, ob, ho⟩ := hrow.block e; rw [hb8] at ho; cases ho
      have hd := le_delV (hle.trans hle9) hap
      obtain ⟨p0, p1, p2, p3, p4, p5, p6, p7, p8, p9⟩ := Batch.parts (hcx.le hd)
      have ctpd := ctp.le hd
      have crd := cr.delV hv8
      obtain ⟨r0, _⟩ := Rec.parts crd
      have crd' := crd
      repeat (first | refine rg_nil ?_ | refine eg_then ?_)
      refine cg_app v hrow9 rfl (by kernel_rfl) (by kernel_rfl) rfl rfl (m' := (X ++ (b.recs.take q).map (toldB tp b)).length + 1) (xs' := (X ++ (b.recs.take q).map (toldB tp b)).flatMap Told.vs ++ (toldB tp b r).vs) ?_
      repeat (first | refine qvp ?_ | refine qva ?_ | refine qvs ?_ | refine qvi ?_ | refine qvl ?_ | refine qvg ?_ | refine qvf ?_)
      refine we_s rfl (loc_det rfl (d_lit (cells := (toldB tp b r).vs) rfl rfl rfl)) ?_
      refine we_v rfl (loc_alloc rfl (a_slice (cells := (toldB tp b r).vs) rfl rfl rfl rfl (by kernel_rfl) rfl)) ?_
      refine we_app rfl rfl rfl rfl rfl (fun k1 u _ ⟨b, hu, hkb, _⟩ => ⟨b, 0, 1, hu, cells_at hkb rfl⟩) rfl (by simp [Told.vs, Tp.vs, Rec.vs, Value.oneCell']) rfl rfl (by unfold maxLen; omega) (by omega) ?_
      skip
      refine we_nil ⟨54, _, [(0, .is (.slice (some ⟨bx, ox, none⟩) l.length c)), (3, .is (.pointer (some ⟨b3, 0, none⟩))), (6, .is (.int .i64 (i : Int))), (7, .is (.int .i64 (q : Int)))], rfl, rfl, rfl, ⟨rfl, rfl, rfl, rfl, trivial⟩, fun v' k10 hrow10 ht10 => ?_⟩
      obtain ⟨hle10, hap10⟩ := ht10 k3 (hle.trans hle9) hap
      repeat (first | refine cg_region ?_ | refine rg_nil ?_ | refine eg_then ?_ | refine qsp ?_ | refine qsa ?_ | refine eg_in_normal ?_)
      refine eg_again (q + 1) _ ⟨v', hle10, ?_, hap10, hqt, rfl⟩ (by omega) ⟨rfl, rfl, rfl, rfl, rfl, trivial⟩
      rw [hs2, ← List.append_assoc, List.length_append, List.flatMap_append]
      simpa using hrow10
    · have hqe : q = b.recs.length := by simp at h2; omega
      subst hqe
      rw [List.take_length, ← hsu] at hrow
      repeat (first | refine cg_region ?_ | refine rg_nil ?_ | refine eg_then ?_ | refine qsp ?_ | refine qsa ?_ | refine eg_in_normal ?_ | refine cg_exit ?_ | refine eg_then_exit ?_ | refine eg_in_exit ?_)
      exact eg_again (i + 1) _ ⟨v, hle, hrow, hap, hlt, rfl⟩ (by omega) ⟨rfl, rfl, rfl, rfl, trivial⟩
  · have hil : i = l.length := by simp at h; omega
    rw [hil, List.take_length] at hrow
    obtain ⟨al, cl, rfl, hL⟩ := Row.sl (T := tTold) hrow (fun m hm => by
      obtain ⟨b, hb, hm⟩ := List.mem_flatMap.1 hm
      obtain ⟨r, hr, rfl⟩ := List.mem_map.1 hm
      obtain ⟨j, hj, rfl⟩ := List.getElem_of_mem hb
      obtain ⟨_, _, _, _, ⟨ra, rc, _, hrs, hok⟩, _⟩ := hl.el j l[j] (List.getElem?_eq_getElem hj)
      obtain ⟨q, hq, rfl⟩ := List.getElem_of_mem hr
      obtain ⟨_, _, _, _, ⟨_, hrok⟩, _⟩ := hrs.el q l[j].recs[q] (List.getElem?_eq_getElem hq)
      obtain ⟨n1, n2, n3, n4, n5⟩ := hn l[j] (List.getElem_mem hj)
      have := n5 _ (List.getElem_mem hq)
      exact ⟨rfl, htp, hrok.1, ⟨by show _ ≤ l[j].fromV + _ - _; omega, by show l[j].fromV + _ - _ ≤ _; omega⟩, hrok⟩)
    repeat (first | refine cg_seq ?_ | refine cg_region ?_ | refine rg_nil ?_ | refine eg_then ?_ | refine qsp ?_ | refine cg_ret ?_ | refine cg_exit ?_ | refine eg_then_exit ?_ | refine eg_in_exit ?_)
    exact eg_return rfl rfl ⟨al, cl, rfl, hL⟩
set_option maxHeartbeats 1000000 in
theorem committed_ct {k : PH} {t : Tx} {a0 : Option Addr} {c0 : Nat} {a1 : Option Addr} {c1 : Nat} {a2 : Option Addr} {c2 : Nat} (b : Batch) (ab : Option Addr) (cb : Nat) (ht : Sl tGone k a2 c2 t.done) :
    CT Tryz.prog 57 #[.agg (b.cs ab cb).toArray, .agg (t.cs a0 c0 a1 c1 a2 c2).toArray] k (fun _ v => v = .bool (t.done.any (isP b))) := by
  refine ct_of_body (l := [_, _]) Tryz.func57 rfl Tryz.ntmps57 (by simp) (fun _ _ _ _ h => h) fun F hF0 hFm => ?_
  have b1 := ht.cap; have b2 := ht.max; unfold maxLen at b2
  repeat (first | refine cg_seq ?_ | refine cg_region ?_)
  refine rb rfl rfl rfl rfl (a_box rfl rfl) ?_; intro b3 k3 hb3 hN3 hle3 hk3
  refine rb rfl rfl rfl rfl (a_box rfl rfl) ?_; intro b4 k4 hb4 hN4 hle4 hk4
  have cb3 := (cells_at (vs := b.cs ab cb) hk3 rfl).le hle4
  have ct := cells_at (vs := t.cs a0 c0 a1 c1 a2 c2) hk4 rfl
  obtain ⟨z0, z1, z2⟩ := Tx.parts ct
  have hl := ht.le (hle3.trans hle4)
  repeat (first | refine cg_seq ?_ | refine cg_region ?_ | refine rg_nil ?_ | refine eg_then ?_ | refine qsp ?_ | refine cg_block ?_)
  refine cg_loop (fun (i : Nat) e k' => k' = k4 ∧ i ≤ t.done.length ∧ (∀ g ∈ t.done.take i, isP b g = false) ∧ e = [(2, .is (.pointer (some ⟨b3, 0, none⟩))), (3, .is (.pointer (some ⟨b4, 0, none⟩))), (5, .is (.int .i64 (i : Int)))])
    (fun i => t.done.length - i) 0 ⟨rfl, Nat.zero_le _, by simp, rfl⟩ ⟨rfl, rfl, rfl, trivial⟩ ?_
  rintro i e k1 ⟨rfl, hi, hno, rfl⟩
  repeat (first | refine cg_seq ?_ | refine cg_region ?_ | refine rg_nil ?_ | refine eg_then ?_ | refine qsp ?_ | refine qsn ?_ | refine qsl ?_ | refine qsf ?_)
  refine cg_cond rfl (fun h => ?_) (fun h => ?_)
  · have hlt : i < t.done.length := by simpa using h
    obtain ⟨bx, ox, cx, rfl, ⟨rfl, hok⟩, hcx⟩ := hl.el i t.done[i] (List.getElem?_eq_getElem hlt)
    have hs : CT Tryz.prog 78 #[.agg (b.cs ab cb).toArray, .agg t.done[i].vs.toArray] k1 (fun _ v => v = .bool (isP b t.done[i])) := isGone_ct b ab cb t.done[i]
    repeat (first | refine cg_seq ?_ | refine eg_then ?_ | refine cg_skip ?_ | refine cg_block ?_)
    refine cg_any (by kernel_rfl) rfl ?_
    repeat (first | refine qwp ?_ | refine qwi ?_ | refine qwl ?_ | refine qwg ?_ | refine qwf ?_)
    refine ws rfl (loc_call_is rfl rfl rfl rfl (hs)) ?_
    repeat (first | (refine wn rfl ?_; refine eg_then ?_))
    cases q : isP b t.done[i]
    · repeat (first | refine cg_region ?_ | refine rg_nil ?_ | refine eg_then ?_ | refine qsp ?_ | refine qsa ?_ | refine cg_cond_false rfl ?_ | refine cg_skip ?_ | refine eg_in_normal ?_)
      refine eg_again (i + 1) _ ⟨rfl, hlt, fun g hg => ?_, rfl⟩ (by omega) ⟨rfl, rfl, rfl, trivial⟩
      rw [List.take_succ_eq_append_getElem hlt] at hg
      rcases List.mem_append.1 hg with hg | hg
      · exact hno g hg
      · simp at hg; subst hg; exact q
    · repeat (first | refine cg_seq ?_ | refine cg_region ?_ | refine rg_nil ?_ | refine eg_then ?_ | refine qsp ?_ | refine cg_cond_true rfl ?_ | refine cg_ret ?_ | refine eg_then_ret ?_ | refine eg_in_ret ?_)
      refine eg_return rfl rfl ?_
      rw [List.any_eq_true.2 ⟨t.done[i], List.getElem_mem hlt, q⟩]
  · have hil : i = t.done.length := by simp at h; omega
    subst hil
    rw [List.take_length] at hno
    repeat (first | refine cg_seq ?_ | refine cg_region ?_ | refine rg_nil ?_ | refine eg_then ?_ | refine qsp ?_ | refine cg_ret ?_ | refine cg_exit ?_ | refine eg_then_exit ?_ | refine eg_in_exit ?_)
    refine eg_return rfl rfl ?_
    rw [List.any_eq_false.2 fun g hg => by rw [hno g hg]; decide]
end Go.Wm

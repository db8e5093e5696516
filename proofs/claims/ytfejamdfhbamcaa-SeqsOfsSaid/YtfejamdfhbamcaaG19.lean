/-
  Producers, the document's: one put in its place. Conditions: that what is handed in reads as data.
-/
import Derived.Test.YtfejamdfhbamcaaG5
import Derived.Test.YtfejamdfhbamcaaG6
set_option linter.all false
namespace Go.Wm
open Go.RowKit Go.Proofs
/-- One more is looked at: whether the producer has been put, and all that was. -/
def stepA (p : ProdT) (s : Bool × List ProdT) (q : ProdT) : Bool × List ProdT := if s.1 = false ∧ p.pid ≤ q.pid then (true, s.2 ++ [p]) else s
def stepW (p : ProdT) (s : Bool × List ProdT) (q : ProdT) : Bool × List ProdT := if q.pid ≠ p.pid then ((stepA p s q).1, (stepA p s q).2 ++ [q]) else stepA p s q
def finW (p : ProdT) (s : Bool × List ProdT) : List ProdT := if s.1 = true then s.2 else s.2 ++ [p]
theorem fold_done {p : ProdT} : ∀ {l acc : List ProdT}, (∀ q ∈ l, p.pid < q.pid) → l.foldl (stepW p) (true, acc) = (true, acc ++ l)
  | [], acc, _ => by simp
  | q :: l, acc, h => by
    have h0 := h q (by simp)
    have e : stepW p (true, acc) q = (true, acc ++ [q]) := by
      unfold stepW stepA; rw [if_pos (by omega), if_neg (by simp)]
    rw [List.foldl_cons, e, fold_done fun x hx => h x (by simp [hx])]
    simp
theorem fold_with {p : ProdT} : ∀ {l acc : List ProdT}, (l.Pairwise fun a b => a.pid < b.pid) → finW p (l.foldl (stepW p) (false, acc)) = acc ++ putP l p
  | [], acc, _ => rfl
  | q :: l, acc, hp => by
    obtain ⟨h1, h2⟩ := List.pairwise_cons.1 hp
    rw [List.foldl_cons]
    unfold putP
    by_cases h : q.pid < p.pid
    · have e : stepW p (false, acc) q = (false, acc ++ [q]) := by
        unfold stepW stepA; rw [if_pos (by omega), if_neg (by simp; omega)]
      rw [e, fold_with h2, if_pos h]; simp
    · rw [if_neg h]
      by_cases he : q.pid = p.pid
      · have e : stepW p (false, acc) q = (true, acc ++ [p]) := by
          unfold stepW stepA; rw [if_neg (by omega), if_pos ⟨rfl, by omega⟩]
        rw [e, fold_done (fun x hx => by have := h1 x hx; omega), if_pos he]
        simp [finW]
      · have e : stepW p (false, acc) q = (true, acc ++ [p] ++ [q]) := by
          unfold stepW stepA; rw [if_pos he, if_pos ⟨rfl, by omega⟩]
        rw [e, fold_done (fun x hx => by have := h1 x hx; omega), if_neg he]
        simp [finW]
theorem fold_len {p : ProdT} : ∀ {l : List ProdT} {s : Bool × List ProdT}, (l.foldl (stepW p) s).2.length ≤ s.2.length + 2 * l.length
  | [], s => by simp
  | q :: l, s => by
    rw [List.foldl_cons]
    have h1 := fold_len (p := p) (l := l) (s := stepW p s q)
    have h2 : (stepW p s q).2.length ≤ s.2.length + 2 := by
      unfold stepW stepA; split <;> split <;> simp
    simp only [List.length_cons]; omega
theorem fold_succ {p : ProdT} {l : List ProdT} {s : Bool × List ProdT} {i : Nat} (h : i < l.length) : (l.take (i + 1)).foldl (stepW p) s = stepW p ((l.take i).foldl (stepW p) s) l[i] := by
  rw [List.take_succ_eq_append_getElem h, List.foldl_append]; rfl
attribute [local irreducible] RG CG EG WA Loc Det Alc CT Exit.then Exit.inBlock Code.wp bodyPost
set_option maxHeartbeats 4000000 in
theorem with_ctn {k : PH} {a : Option Addr} {c : Nat} {l : List ProdT} {p : ProdT} {ap : Option Addr} {cp : Nat} (hl : Sl tProdT k a c l) (hb : l.length ≤ 1000000) (hps : ProdsP l) (hsd : Sl tDid k ap cp p.did) (hok : p.ok) :
    CTN Try.prog 78 #[.slice a l.length c, .agg (p.cs ap cp).toArray] k (fun N k' v => POwn N k' v (putP l p)) := by
  refine ctn_of_body (l := [_, _]) Try.func78 rfl Try.ntmps78 (by simp) (fun N k k' v hle h => h.le hle) fun F hF0 hFm => ?_
  have b1 := hl.cap; have b2 := hl.max; unfold maxLen at b2
  have hpw := ((prods_iff l).1 hps).2
  have hfin := fold_with (p := p) (acc := []) hpw
  rw [List.nil_append] at hfin
  repeat (first | refine cg_seq ?_ | refine cg_region ?_)
  refine rb rfl rfl rfl rfl (a_box rfl rfl) ?_; intro b3 KK hb3 hN3 hle3 hk3
  have hl := hl.le hle3
  have hsd := hsd.le hle3
  have hrepP : tProdT.rep KK (p.cs ap cp) p := ⟨ap, cp, rfl, hsd, hok⟩
  repeat (first | refine cg_seq ?_ | refine cg_region ?_ | refine rg_nil ?_ | refine eg_then ?_ | refine qsp ?_ | refine cg_block ?_)
  refine cg_loop (fun (i : Nat) e k' => ∃ v css d, d = ((l.take i).foldl (stepW p) (false, [])).1 ∧ Le KK k' ∧ Apart KK v ∧ Pieces tProdT KK css ((l.take i).foldl (stepW p) (false, [])).2 ∧ Row F.w0.heap.size k' 51 3 v ((l.take i).foldl (stepW p) (false, [])).2.length css.flatten ∧ i ≤ l.length ∧
      e = [(0, .is (.slice a l.length c)), (3, .is (.pointer (some ⟨b3, 0, none⟩))), (5, .is v), (6, .is (.bool d)), (7, .is (.int .i64 (i : Int)))])
    (fun i => l.length - i) 0 ⟨.slice none 0 0, [], false, rfl, Le.refl _, apart_nil _ _ _, Pieces.nil _ _, row_nil _ _ _ _, by omega, rfl⟩ ⟨rfl, rfl, rfl, rfl, rfl, trivial⟩ ?_
  rintro i e k5 ⟨v, css, d, hd, hle5, hap, hpc, hrow, hi, rfl⟩
  have hlen : ((l.take i).foldl (stepW p) (false, [])).2.length ≤ 2000002 := by
    have := fold_len (p := p) (l := l.take i) (s := (false, []))
    rw [List.length_take] at this
    simp only [List.length_nil] at this; omega
  repeat (first | refine cg_seq ?_ | refine cg_region ?_ | refine rg_nil ?_ | refine eg_then ?_ | refine qsp ?_ | refine qsn ?_)
  refine cg_cond rfl (fun h => ?_) (fun h => ?_)
  rotate_left
  · have hil : i = l.length := by have := of_decide_eq_false h; omega
    subst hil
    rw [List.take_length] at hpc hrow hlen hd
    have hcp := cells_at (vs := p.cs ap cp) (hle5 _ _ hk3) rfl
    generalize l.foldl (stepW p) (false, []) = s at hpc hrow hlen hfin hd
    obtain ⟨d', fs⟩ := s
    dsimp only at hpc hrow hlen hd
    subst hd
    repeat (first | refine cg_seq ?_ | refine cg_region ?_ | refine rg_nil ?_ | refine eg_then ?_ | refine qsp ?_ | refine cg_exit ?_ | refine eg_then_exit ?_ | refine eg_in_exit ?_)
    cases d
    · rw [finW, if_neg (by simp)] at hfin
      obtain ⟨pp, hpp⟩ : ∃ pp, p = pp := ⟨_, rfl⟩
      obtain ⟨a0, ha0⟩ : ∃ a0, ap = a0 := ⟨_, rfl⟩
      obtain ⟨c0, hc0⟩ : ∃ c0, cp = c0 := ⟨_, rfl⟩
      rw [hpp, ha0, hc0] at hcp hrepP
      rw [hpp] at hfin
      have hrepK := hrepP
      have hleK := hle5
      have hcp := hcp
      repeat (first | refine cg_region ?_ | refine qsp ?_ | refine qsg ?_ | refine cg_cond_true rfl ?_)
      refine rb rfl rfl rfl rfl (a_slice (cells := ProdT.cs pp a0 c0) rfl rfl rfl rfl (by kernel_rfl) rfl) ?_; intro bn k7 hbn hNn hle7 hkn
      refine rap (j := 1) (news := ProdT.cs pp a0 c0) rfl rfl rfl rfl rfl rfl rfl (hrow.le hle7) (cells_at hkn rfl) rfl (by simp [ProdT.cs, Value.oneCell']) (by kernel_rfl) rfl (by unfold maxLen; omega) (by omega) ?_
      rintro v' k8 hrow8 htn
      obtain ⟨hle8, hap8⟩ := htn KK (hleK.trans hle7) hap
      have hrow8 : Row F.w0.heap.size k8 51 3 v' (fs ++ [pp]).length (css ++ [ProdT.cs pp a0 c0]).flatten := by simpa using hrow8
      have hpc8 : Pieces tProdT KK (css ++ [ProdT.cs pp a0 c0]) (fs ++ [pp]) := hpc.append (Pieces.one hrepK)
      repeat (first | refine cg_seq ?_ | refine cg_region ?_ | refine rg_nil ?_ | refine eg_then ?_ | refine qsp ?_ | refine cg_ret ?_)
      refine eg_return rfl rfl ?_
      rw [← hpp] at hfin hrow8 hpc8
      rw [← hfin]
      exact ⟨_, hpc8.le hle8, hrow8⟩
    · rw [finW, if_pos rfl] at hfin
      repeat (first | refine cg_seq ?_ | refine cg_region ?_ | refine rg_nil ?_ | refine eg_then ?_ | refine qsp ?_ | refine cg_cond_false rfl ?_ | refine cg_skip ?_ | refine cg_ret ?_)
      refine eg_return rfl rfl ?_
      rw [← hfin]
      exact ⟨css, hpc.le hle5, hrow⟩
  have hlt : i < l.length := by have := of_decide_eq_true h; omega
  obtain ⟨bx, ox, cx, rfl, ⟨aq, cq, rfl, hsq, hqok⟩, hcx⟩ := hl.el i l[i] (List.getElem?_eq_getElem hlt)
  have hsu := fold_succ (p := p) (s := (false, [])) hlt
  obtain ⟨q, hq⟩ : ∃ q, l[i] = q := ⟨_, rfl⟩
  rw [hq] at hcx hsq hqok hsu
  have hrepQ : tProdT.rep KK (q.cs aq cq) q := ⟨aq, cq, rfl, hsq, hqok⟩
  generalize (l.take i).foldl (stepW p) (false, []) = s at hpc hrow hlen hsu hd
  obtain ⟨d', fs⟩ := s
  dsimp only at hpc hrow hlen hd
  subst hd
  obtain ⟨e0, e1, e2⟩ := ProdT.parts (hcx.le hle5)
  obtain ⟨p0, p1, p2⟩ := ProdT.parts (cells_at (vs := p.cs ap cp) (hle5 _ _ hk3) rfl)
  repeat (first | refine cg_seq ?_ | refine eg_then ?_ | refine cg_skip ?_ | refine cg_block ?_)
  refine cg_any (by kernel_rfl) rfl ?_
  repeat (first | refine qwp ?_)
  cases d
  case true =>
    have hA : stepA p (true, fs) q = (true, fs) := by unfold stepA; rw [if_neg (by simp)]
    repeat (first | refine qwp ?_ | refine qwo ?_ | (refine wn rfl ?_; refine eg_then ?_))
    repeat (first | refine cg_seq ?_ | refine eg_then ?_ | refine cg_cond_false rfl ?_ | refine cg_skip ?_)
    refine cg_any (by kernel_rfl) rfl ?_
    repeat (first | refine qwp ?_ | refine qwi ?_ | refine qwl ?_ | refine qwf ?_ | (refine wn rfl ?_; refine eg_then ?_))
    cases r2 : (q.pid != p.pid)
    case false =>
      have hqp : q.pid = p.pid := by simpa using r2
      have hsu' : (l.take (i + 1)).foldl (stepW p) (false, []) = (true, fs) := by rw [hsu]; unfold stepW; rw [if_neg (by simp [hqp]), hA]
      skip
      repeat (first | refine cg_region ?_ | refine rg_nil ?_ | refine eg_then ?_ | refine qsp ?_ | refine qsa ?_ | refine cg_cond_false rfl ?_ | refine cg_skip ?_ | refine eg_in_normal ?_)
      exact eg_again (i + 1) _ ⟨v, css, true, by rw [hsu'], hle5, hap, by rw [hsu']; exact hpc, by rw [hsu']; exact hrow, hlt, rfl⟩ (by omega) ⟨rfl, rfl, rfl, rfl, rfl, trivial⟩
    have hqp : q.pid ≠ p.pid := by simpa using r2
    have hsu' : (l.take (i + 1)).foldl (stepW p) (false, []) = (true, fs ++ [q]) := by rw [hsu]; unfold stepW; rw [if_pos hqp, hA]
    clear e0 e1 e2 p0 p1 p2
    obtain ⟨pp, hpp⟩ : ∃ pp, q = pp := ⟨_, rfl⟩
    obtain ⟨a0, ha0⟩ : ∃ a0, aq = a0 := ⟨_, rfl⟩
    obtain ⟨c0, hc0⟩ : ∃ c0, cq = c0 := ⟨_, rfl⟩
    have hcq := hcx.le hle5
    rw [hpp, ha0, hc0] at hcq hrepQ
    rw [hpp] at hsu'
    have hrepK := hrepQ
    have hleK := hle5
    have hcq := hcq
    skip
    repeat (first | refine cg_region ?_ | refine qsp ?_ | refine qsi ?_ | refine qsg ?_ | refine cg_cond_true rfl ?_)
    refine rb rfl rfl rfl rfl (a_slice (cells := ProdT.cs pp a0 c0) rfl rfl rfl rfl (by kernel_rfl) rfl) ?_; intro bn k7 hbn hNn hle7 hkn
    refine rap (j := 1) (news := ProdT.cs pp a0 c0) rfl rfl rfl rfl rfl rfl rfl (hrow.le hle7) (cells_at hkn rfl) rfl (by simp [ProdT.cs, Value.oneCell']) (by kernel_rfl) rfl (by unfold maxLen; omega) (by omega) ?_
    rintro v' k8 hrow8 htn
    obtain ⟨hle8, hap8⟩ := htn KK (hleK.trans hle7) hap
    have hrow8 : Row F.w0.heap.size k8 51 3 v' (fs ++ [pp]).length (css ++ [ProdT.cs pp a0 c0]).flatten := by simpa using hrow8
    have hpc8 : Pieces tProdT KK (css ++ [ProdT.cs pp a0 c0]) (fs ++ [pp]) := hpc.append (Pieces.one hrepK)
    repeat (first | refine cg_region ?_ | refine rg_nil ?_ | refine eg_then ?_ | refine qsp ?_ | refine qsa ?_ | refine eg_in_normal ?_)
    exact eg_again (i + 1) _ ⟨v', css ++ [ProdT.cs pp a0 c0], true, by rw [hsu'], hle8, hap8, by rw [hsu']; exact hpc8, by rw [hsu']; exact hrow8, hlt, rfl⟩ (by omega) ⟨rfl, rfl, rfl, rfl, rfl, trivial⟩
  repeat (first | refine qwp ?_ | refine qwi ?_ | refine qwl ?_ | refine qwf ?_ | (refine wn rfl ?_; refine eg_then ?_))
  cases r1 : decide (q.pid ≥ p.pid)
  case false =>
    have hA : stepA p (false, fs) q = (false, fs) := by unfold stepA; rw [if_neg (by have := of_decide_eq_false r1; simp; omega)]
    skip
    repeat (first | refine cg_seq ?_ | refine eg_then ?_ | refine cg_cond_false rfl ?_ | refine cg_skip ?_)
    refine cg_any (by kernel_rfl) rfl ?_
    repeat (first | refine qwp ?_ | refine qwi ?_ | refine qwl ?_ | refine qwf ?_ | (refine wn rfl ?_; refine eg_then ?_))
    cases r2 : (q.pid != p.pid)
    case false =>
      have hqp : q.pid = p.pid := by simpa using r2
      have hsu' : (l.take (i + 1)).foldl (stepW p) (false, []) = (false, fs) := by rw [hsu]; unfold stepW; rw [if_neg (by simp [hqp]), hA]
      skip
      repeat (first | refine cg_region ?_ | refine rg_nil ?_ | refine eg_then ?_ | refine qsp ?_ | refine qsa ?_ | refine cg_cond_false rfl ?_ | refine cg_skip ?_ | refine eg_in_normal ?_)
      exact eg_again (i + 1) _ ⟨v, css, false, by rw [hsu'], hle5, hap, by rw [hsu']; exact hpc, by rw [hsu']; exact hrow, hlt, rfl⟩ (by omega) ⟨rfl, rfl, rfl, rfl, rfl, trivial⟩
    have hqp : q.pid ≠ p.pid := by simpa using r2
    have hsu' : (l.take (i + 1)).foldl (stepW p) (false, []) = (false, fs ++ [q]) := by rw [hsu]; unfold stepW; rw [if_pos hqp, hA]
    clear e0 e1 e2 p0 p1 p2
    obtain ⟨pp, hpp⟩ : ∃ pp, q = pp := ⟨_, rfl⟩
    obtain ⟨a0, ha0⟩ : ∃ a0, aq = a0 := ⟨_, rfl⟩
    obtain ⟨c0, hc0⟩ : ∃ c0, cq = c0 := ⟨_, rfl⟩
    have hcq := hcx.le hle5
    rw [hpp, ha0, hc0] at hcq hrepQ
    rw [hpp] at hsu'
    have hrepK := hrepQ
    have hleK := hle5
    have hcq := hcq
    skip
    repeat (first | refine cg_region ?_ | refine qsp ?_ | refine qsi ?_ | refine qsg ?_ | refine cg_cond_true rfl ?_)
    refine rb rfl rfl rfl rfl (a_slice (cells := ProdT.cs pp a0 c0) rfl rfl rfl rfl (by kernel_rfl) rfl) ?_; intro bn k7 hbn hNn hle7 hkn
    refine rap (j := 1) (news := ProdT.cs pp a0 c0) rfl rfl rfl rfl rfl rfl rfl (hrow.le hle7) (cells_at hkn rfl) rfl (by simp [ProdT.cs, Value.oneCell']) (by kernel_rfl) rfl (by unfold maxLen; omega) (by omega) ?_
    rintro v' k8 hrow8 htn
    obtain ⟨hle8, hap8⟩ := htn KK (hleK.trans hle7) hap
    have hrow8 : Row F.w0.heap.size k8 51 3 v' (fs ++ [pp]).length (css ++ [ProdT.cs pp a0 c0]).flatten := by simpa using hrow8
    have hpc8 : Pieces tProdT KK (css ++ [ProdT.cs pp a0 c0]) (fs ++ [pp]) := hpc.append (Pieces.one hrepK)
    repeat (first | refine cg_region ?_ | refine rg_nil ?_ | refine eg_then ?_ | refine qsp ?_ | refine qsa ?_ | refine eg_in_normal ?_)
    exact eg_again (i + 1) _ ⟨v', css ++ [ProdT.cs pp a0 c0], false, by rw [hsu'], hle8, hap8, by rw [hsu']; exact hpc8, by rw [hsu']; exact hrow8, hlt, rfl⟩ (by omega) ⟨rfl, rfl, rfl, rfl, rfl, trivial⟩
  have hA : stepA p (false, fs) q = (true, fs ++ [p]) := by unfold stepA; rw [if_pos ⟨rfl, by have := of_decide_eq_true r1; omega⟩]
  skip
  have hcp := cells_at (vs := p.cs ap cp) (hle5 _ _ hk3) rfl
  clear e0 e1 e2 p0 p1 p2
  have hcp := hcp
  repeat (first | refine cg_seq ?_ | refine cg_region ?_ | refine qsp ?_ | refine qsg ?_ | refine cg_cond_true rfl ?_)
  refine rb rfl rfl rfl rfl (a_slice (cells := ProdT.cs p ap cp) rfl rfl rfl rfl (by kernel_rfl) rfl) ?_; intro bn k7 hbn hNn hle7 hkn
  refine rap (j := 1) (news := ProdT.cs p ap cp) rfl rfl rfl rfl rfl rfl rfl (hrow.le hle7) (cells_at hkn rfl) rfl (by simp [ProdT.cs, Value.oneCell']) (by kernel_rfl) rfl (by unfold maxLen; omega) (by omega) ?_
  rintro w2 k9 hrowX htn
  obtain ⟨hleX, hapX⟩ := htn KK (hle5.trans hle7) hap
  have hrowX : Row F.w0.heap.size k9 51 3 w2 (fs ++ [p]).length (css ++ [ProdT.cs p ap cp]).flatten := by simpa using hrowX
  have hpcX : Pieces tProdT KK (css ++ [ProdT.cs p ap cp]) (fs ++ [p]) := hpc.append (Pieces.one hrepP)
  have hlenX : (fs ++ [p]).length ≤ 2000003 := by simp; omega
  obtain ⟨e0, e1, e2⟩ := ProdT.parts (hcx.le hleX)
  obtain ⟨p0, p1, p2⟩ := ProdT.parts (cells_at (vs := p.cs ap cp) (hleX _ _ hk3) rfl)
  generalize fs ++ [p] = gs at hA hrowX hpcX hlenX
  generalize css ++ [ProdT.cs p ap cp] = dss at hrowX hpcX
  repeat (first | refine cg_seq ?_ | refine cg_region ?_ | refine rg_nil ?_ | refine eg_then ?_ | refine qsp ?_)
  refine cg_any (by kernel_rfl) rfl ?_
  repeat (first | refine qwp ?_ | refine qwi ?_ | refine qwl ?_ | refine qwf ?_ | (refine wn rfl ?_; refine eg_then ?_))
  cases r2 : (q.pid != p.pid)
  case false =>
    have hqp : q.pid = p.pid := by simpa using r2
    have hsu' : (l.take (i + 1)).foldl (stepW p) (false, []) = (true, gs) := by rw [hsu]; unfold stepW; rw [if_neg (by simp [hqp]), hA]
    skip
    repeat (first | refine cg_region ?_ | refine rg_nil ?_ | refine eg_then ?_ | refine qsp ?_ | refine qsa ?_ | refine cg_cond_false rfl ?_ | refine cg_skip ?_ | refine eg_in_normal ?_)
    exact eg_again (i + 1) _ ⟨w2, dss, true, by rw [hsu'], hleX, hapX, by rw [hsu']; exact hpcX, by rw [hsu']; exact hrowX, hlt, rfl⟩ (by omega) ⟨rfl, rfl, rfl, rfl, rfl, trivial⟩
  have hqp : q.pid ≠ p.pid := by simpa using r2
  have hsu' : (l.take (i + 1)).foldl (stepW p) (false, []) = (true, gs ++ [q]) := by rw [hsu]; unfold stepW; rw [if_pos hqp, hA]
  clear e0 e1 e2 p0 p1 p2
  obtain ⟨pp, hpp⟩ : ∃ pp, q = pp := ⟨_, rfl⟩
  obtain ⟨a0, ha0⟩ : ∃ a0, aq = a0 := ⟨_, rfl⟩
  obtain ⟨c0, hc0⟩ : ∃ c0, cq = c0 := ⟨_, rfl⟩
  have hcq := hcx.le hleX
  rw [hpp, ha0, hc0] at hcq hrepQ
  rw [hpp] at hsu'
  have hrepK := hrepQ
  have hleK := hleX
  have hrow := hrowX
  have hap := hapX
  have hpc := hpcX
  have hcq := hcq
  skip
  repeat (first | refine cg_region ?_ | refine qsp ?_ | refine qsi ?_ | refine qsg ?_ | refine cg_cond_true rfl ?_)
  refine rb rfl rfl rfl rfl (a_slice (cells := ProdT.cs pp a0 c0) rfl rfl rfl rfl (by kernel_rfl) rfl) ?_; intro bn k7 hbn hNn hle7 hkn
  refine rap (j := 1) (news := ProdT.cs pp a0 c0) rfl rfl rfl rfl rfl rfl rfl (hrow.le hle7) (cells_at hkn rfl) rfl (by simp [ProdT.cs, Value.oneCell']) (by kernel_rfl) rfl (by unfold maxLen; omega) (by omega) ?_
  rintro v' k8 hrow8 htn
  obtain ⟨hle8, hap8⟩ := htn KK (hleK.trans hle7) hap
  have hrow8 : Row F.w0.heap.size k8 51 3 v' (gs ++ [pp]).length (dss ++ [ProdT.cs pp a0 c0]).flatten := by simpa using hrow8
  have hpc8 : Pieces tProdT KK (dss ++ [ProdT.cs pp a0 c0]) (gs ++ [pp]) := hpc.append (Pieces.one hrepK)
  repeat (first | refine cg_region ?_ | refine rg_nil ?_ | refine eg_then ?_ | refine qsp ?_ | refine qsa ?_ | refine eg_in_normal ?_)
  exact eg_again (i + 1) _ ⟨v', dss ++ [ProdT.cs pp a0 c0], true, by rw [hsu'], hle8, hap8, by rw [hsu']; exact hpc8, by rw [hsu']; exact hrow8, hlt, rfl⟩ (by omega) ⟨rfl, rfl, rfl, rfl, rfl, trivial⟩
end Go.Wm

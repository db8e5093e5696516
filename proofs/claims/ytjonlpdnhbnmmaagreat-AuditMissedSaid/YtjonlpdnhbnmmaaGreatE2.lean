/-
  The facts that batches tell, the law's own (layer 32). Conditions: that what is handed in reads as data.
-/
import Derived.Test.YtjonlpdnhbnmmaaGreatE1
set_option linter.all false
namespace Go.Wm
open Go.RowKit Go.Proofs
attribute [local irreducible] RG CG EG WA Loc Det Alc CT Exit.then Exit.inBlock Code.wp bodyPost
theorem few32_ct {k : PH} {a : Option Addr} {c : Nat} {bs : List Batch} (hl : Sl tBatch k a c bs) (hsh : ∀ b ∈ bs, Short b) :
    CT Tryz.prog 23 #[.slice none 0 0, .slice a bs.length c] k (fun _ v => v = .bool (bs.all fewB && decide ((bs.length : Int) ≤ 40))) := by
  refine ct_of_body (l := [_, _]) Tryz.func23 rfl Tryz.ntmps23 (by simp) (fun _ _ _ _ h => h) fun F hF0 hFm => ?_
  repeat (first | refine cg_seq ?_ | refine cg_region ?_ | refine rg_nil ?_ | refine eg_then ?_ | refine qsp ?_ | refine qsn ?_)
  refine rs rfl rfl (loc_call_is rfl rfl rfl rfl (fewAll_ct 40 hl hsh)) ?_
  repeat (first | refine rg_nil ?_ | refine eg_then ?_ | refine qsp ?_ | refine cg_ret ?_)
  exact eg_return rfl rfl rfl
def endsN (l : List Batch) (p : Int) : Nat := (l.filter fun c => decide (c.pid = p) && !decide (c.ctl = 0)).length
def factB (tp : Tp) (t : Tx) (l : List Batch) (i : Nat) (b : Batch) (r : Rec) : Fact := ⟨tp, r.off, r, b.pid, if b.txn = true then (endsN (l.take i) b.pid : Int) else -1, if b.txn = true then t.done.any (isP b) else true⟩
def factsN (tp : Tp) (t : Tx) (l : List Batch) : Nat → List Fact
  | 0 => []
  | i + 1 => factsN tp t l i ++ (if h : i < l.length then l[i].recs.map (factB tp t l i l[i]) else [])
theorem facts_succ {tp : Tp} {t : Tx} {l : List Batch} {i : Nat} (h : i < l.length) : factsN tp t l (i + 1) = factsN tp t l i ++ l[i].recs.map (factB tp t l i l[i]) := by
  rw [factsN, dif_pos h]
theorem facts_len {tp : Tp} {t : Tx} {l : List Batch} (h : ∀ b ∈ l, b.recs.length ≤ 100) : ∀ i, (factsN tp t l i).length ≤ 100 * i
  | 0 => by simp [factsN]
  | i + 1 => by
    have ih := facts_len (tp := tp) (t := t) h i
    rw [factsN, List.length_append]
    split
    · rename_i hi
      have := h l[i] (List.getElem_mem hi)
      rw [List.length_map]; omega
    · simp; omega
theorem ends_succ {l : List Batch} {p : Int} {q : Nat} (h : q < l.length) : endsN (l.take (q + 1)) p = endsN (l.take q) p + (if (decide (l[q].pid = p) && !decide (l[q].ctl = 0)) = true then 1 else 0) := by
  unfold endsN
  rw [filter_take_succ h, List.length_append]
  congr 1
  split <;> rename_i e <;> simp [e]
theorem ends_len (l : List Batch) (p : Int) : endsN l p ≤ l.length := List.length_filter_le _ _
theorem facts_mem {tp : Tp} {t : Tx} {l : List Batch} {m : Fact} : ∀ n, m ∈ factsN tp t l n → ∃ i, ∃ h : i < l.length, i < n ∧ ∃ r ∈ l[i].recs, m = factB tp t l i l[i] r
  | 0, h => by simp [factsN] at h
  | n + 1, h => by
    rw [factsN] at h
    rcases List.mem_append.1 h with h | h
    · obtain ⟨i, hi, hin, hr⟩ := facts_mem n h
      exact ⟨i, hi, by omega, hr⟩
    · split at h
      · rename_i hn
        obtain ⟨r, hr, rfl⟩ := List.mem_map.1 h
        exact ⟨n, hn, by omega, r, hr, rfl⟩
      · cases h
set_option maxHeartbeats 4000000 in
theorem facts_ct {k : PH} {a : Option Addr} {c : Nat} {l : List Batch} {t : Tx} {a0 : Option Addr} {c0 : Nat} {a1 : Option Addr} {c1 : Nat} {a2 : Option Addr} {c2 : Nat} (tp : Tp) (htp : tp.ok) (hl : Sl tBatch k a c l) (ht : Sl tGone k a2 c2 t.done) (h100 : ∀ b ∈ l, b.recs.length ≤ 100) (hb : l.length ≤ 1000) :
    CT Tryz.prog 31 #[.slice a l.length c, .agg (t.cs a0 c0 a1 c1 a2 c2).toArray, .agg tp.vs.toArray] k (fun k' v => ∃ a' c', v = .slice a' (factsN tp t l l.length).length c' ∧ Sl tFact k' a' c' (factsN tp t l l.length)) := by
  refine ct_of_body (l := [_, _, _]) Tryz.func31 rfl Tryz.ntmps31 (by simp) (fun k k' v hle ⟨a, c, h1, h2⟩ => ⟨a, c, h1, h2.le hle⟩) fun F hF0 hFm => ?_
  have b1 := hl.cap; have b2 := hl.max; unfold maxLen at b2
  repeat (first | refine cg_seq ?_ | refine cg_region ?_)
  refine rb rfl rfl rfl rfl (a_box rfl rfl) ?_; intro b3 k3 hb3 hN3 hle3 hk3
  refine rb rfl rfl rfl rfl (a_box rfl rfl) ?_; intro b4 k4 hb4 hN4 hle4 hk4
  have ctx := (cells_at (vs := t.cs a0 c0 a1 c1 a2 c2) hk3 rfl).le hle4
  have ctp := cells_at (vs := tp.vs) hk4 rfl
  have hl := hl.le (hle3.trans hle4)
  have ht := ht.le (hle3.trans hle4)
  repeat (first | refine cg_seq ?_ | refine cg_region ?_ | refine rg_nil ?_ | refine eg_then ?_ | refine qsp ?_ | refine cg_block ?_)
  refine cg_loop (fun (i : Nat) e k' => ∃ v, Le k4 k' ∧ Row F.w0.heap.size k' 65 12 v (factsN tp t l i).length ((factsN tp t l i).flatMap Fact.vs) ∧ Apart k4 v ∧ i ≤ l.length ∧ e = [(0, .is (.slice a l.length c)), (4, .is (.pointer (some ⟨b3, 0, none⟩))), (5, .is (.pointer (some ⟨b4, 0, none⟩))), (7, .is v), (8, .is (.int .i64 (i : Int)))])
    (fun i => l.length - i) 0 ⟨.slice none 0 0, Le.refl _, row_nil _ _ _ _, apart_nil _ _ _, Nat.zero_le _, rfl⟩ ⟨rfl, rfl, rfl, rfl, rfl, trivial⟩ ?_
  rintro i e k1 ⟨v, hle, hrow, hap, hi, rfl⟩
  repeat (first | refine cg_seq ?_ | refine cg_region ?_ | refine rg_nil ?_ | refine eg_then ?_ | refine qsp ?_ | refine qsn ?_)
  refine cg_cond rfl (fun h => ?_) (fun h => ?_)
  · have hlt : i < l.length := by simpa using h
    obtain ⟨bx, ox, cx, rfl, ⟨ra, rc, rfl, hr, hok⟩, hcx⟩ := hl.el i l[i] (List.getElem?_eq_getElem hlt)
    have h100' := h100 l[i] (List.getElem_mem hlt)
    have hsu := facts_succ (tp := tp) (t := t) hlt
    have hHl : (factsN tp t l i).length ≤ 100 * 1000 := by
      have := facts_len (tp := tp) (t := t) h100 i
      omega
    have hen := ends_len (l.take i) l[i].pid
    rw [List.length_take] at hen
    obtain ⟨G, hG0⟩ : ∃ G, G = factB tp t l i l[i] := ⟨_, rfl⟩
    rw [← hG0] at hsu
    generalize factsN tp t l i = X at hsu hrow hHl
    have hbi : l[i] = l[i] := rfl
    obtain ⟨p0, p1, p2, p3, p4, p5, p6, p7, p8, p9⟩ := Batch.parts (hcx.le hle)
    have c1' := hr.cap; have c2' := hr.max; unfold maxLen at c2'
    repeat (first | refine cg_seq ?_ | refine cg_region ?_ | refine rg_nil ?_ | refine eg_then ?_ | refine qsp ?_ | refine qsi ?_ | refine qsl ?_ | refine qsf ?_ | refine cg_skip ?_ | refine cg_block ?_)
    cases y : l[i].txn
    · have hG : ∀ r : Rec, G r = ⟨tp, r.off, r, l[i].pid, -1, true⟩ := fun r => by rw [hG0]; simp [factB, y]
      generalize l[i] = b at hsu hr hok hcx h100' p0 p1 p2 p3 p4 p5 p6 p7 p8 p9 c1' hG
      clear hG0 y hbi hen
      repeat (first | refine cg_seq ?_ | refine cg_region ?_ | refine rg_nil ?_ | refine eg_then ?_ | refine qsp ?_ | refine cg_cond_false rfl ?_ | refine cg_skip ?_ | refine cg_block ?_)
      refine cg_loop (fun (q : Nat) e k' => ∃ v, Le k4 k' ∧ Row F.w0.heap.size k' 65 12 v (X ++ (b.recs.take q).map G).length ((X ++ (b.recs.take q).map G).flatMap Fact.vs) ∧ Apart k4 v ∧ q ≤ b.recs.length ∧ e = [(0, .is (.slice (some ⟨bx, ox, none⟩) l.length c)), (4, .is (.pointer (some ⟨b3, 0, none⟩))), (5, .is (.pointer (some ⟨b4, 0, none⟩))), (7, .is v), (8, .is (.int .i64 (i : Int))), (9, .is (.int .i64 (-1))), (10, .is (.bool true)), (12, .is (.int .i64 (q : Int)))])
        (fun q => b.recs.length - q) 0 ⟨v, hle, by simpa using hrow, hap, Nat.zero_le _, rfl⟩ ⟨rfl, rfl, rfl, rfl, rfl, rfl, rfl, rfl, trivial⟩ ?_
      clear hrow hap hle
      rintro q e k2 ⟨v, hle, hrow, hap, hq, rfl⟩
      obtain ⟨p0, p1, p2, p3, p4, p5, p6, p7, p8, p9⟩ := Batch.parts (hcx.le hle)
      repeat (first | refine cg_seq ?_ | refine cg_region ?_ | refine rg_nil ?_ | refine eg_then ?_ | refine qsp ?_ | refine qsn ?_ | refine qsi ?_ | refine qsl ?_ | refine qsf ?_)
      refine cg_cond rfl (fun h2 => ?_) (fun h2 => ?_)
      · have hqt : q < b.recs.length := by simpa using h2
        have hd := le_delV hle hap
        obtain ⟨by', oy, cy, rfl, ⟨rfl, hrok⟩, hcy⟩ := (hr.le hd).el q b.recs[q] (List.getElem?_eq_getElem hqt)
        have hXl : (X ++ (b.recs.take q).map G).length ≤ 100100 := by
          rw [List.length_append, List.length_map, List.length_take]; omega
        have hs2 : (b.recs.take (q + 1)).map G = (b.recs.take q).map G ++ [G b.recs[q]] := by
          rw [List.take_succ_eq_append_getElem hqt, List.map_append]; rfl
        have hGr := hG b.recs[q]
        generalize hrq : b.recs[q] = r at hrok hcy hs2 hGr
        obtain ⟨p0, p1, p2, p3, p4, p5, p6, p7, p8, p9⟩ := Batch.parts (hcx.le hd)
        obtain ⟨r0, _⟩ := Rec.parts hcy
        have hcy' := hcy
        have ctpd := ctp.le hd
        repeat (first | refine cg_seq ?_ | refine eg_then ?_ | refine cg_skip ?_ | refine cg_block ?_)
        refine cg_app v hrow rfl (by kernel_rfl) (by kernel_rfl) rfl rfl (m' := (X ++ (b.recs.take q).map G).length + 1) (xs' := (X ++ (b.recs.take q).map G).flatMap Fact.vs ++ (G r).vs) ?_
        repeat (first | refine qvp ?_ | refine qvi ?_ | refine qvl ?_ | refine qvg ?_ | refine qvf ?_)
        refine we_s rfl (loc_det rfl (d_lit (cells := (G r).vs) rfl rfl (by rw [hGr]; rfl))) ?_
        refine we_v rfl (loc_alloc rfl (a_slice (cells := (G r).vs) rfl rfl rfl rfl (by kernel_rfl) rfl)) ?_
        refine we_app rfl rfl rfl rfl rfl (fun k1 u _ ⟨b, hu, hkb, _⟩ => ⟨b, 0, 1, hu, cells_at hkb rfl⟩) rfl (by simp [Fact.vs, Tp.vs, Rec.vs, Value.oneCell']) rfl rfl (by unfold maxLen; omega) (by omega) ?_
        skip
        refine we_nil ⟨94, _, [(0, .is (.slice (some ⟨bx, ox, none⟩) l.length c)), (4, .is (.pointer (some ⟨b3, 0, none⟩))), (5, .is (.pointer (some ⟨b4, 0, none⟩))), (8, .is (.int .i64 (i : Int))), (9, .is (.int .i64 (-1))), (10, .is (.bool true)), (12, .is (.int .i64 (q : Int)))], rfl, rfl, rfl, ⟨rfl, rfl, rfl, rfl, rfl, rfl, rfl, trivial⟩, fun v' k10 hrow10 ht10 => ?_⟩
        obtain ⟨hle10, hap10⟩ := ht10 k4 hle hap
        repeat (first | refine cg_region ?_ | refine rg_nil ?_ | refine eg_then ?_ | refine qsp ?_ | refine qsa ?_ | refine eg_in_normal ?_)
        refine eg_again (q + 1) _ ⟨v', hle10, ?_, hap10, hqt, rfl⟩ (by omega) ⟨rfl, rfl, rfl, rfl, rfl, rfl, rfl, rfl, trivial⟩
        rw [hs2, ← List.append_assoc, List.length_append, List.flatMap_append]
        simpa using hrow10
      · have hqe : q = b.recs.length := by simp at h2; omega
        subst hqe
        rw [List.take_length, ← hsu] at hrow
        repeat (first | refine cg_region ?_ | refine rg_nil ?_ | refine eg_then ?_ | refine qsp ?_ | refine qsa ?_ | refine eg_in_normal ?_ | refine cg_exit ?_ | refine eg_then_exit ?_ | refine eg_in_exit ?_)
        exact eg_again (i + 1) _ ⟨v, hle, hrow, hap, hlt, rfl⟩ (by omega) ⟨rfl, rfl, rfl, rfl, rfl, trivial⟩
    · repeat (first | refine cg_seq ?_ | refine cg_region ?_ | refine rg_nil ?_ | refine eg_then ?_ | refine qsp ?_ | refine cg_cond_true rfl ?_ | refine cg_block ?_)
      refine cg_loop (fun (q : Nat) e k' => k' = k1 ∧ q ≤ i ∧ ∃ m : Nat, m = endsN (l.take q) l[i].pid ∧ e = [(0, .is (.slice (some ⟨bx, ox, none⟩) l.length c)), (4, .is (.pointer (some ⟨b3, 0, none⟩))), (5, .is (.pointer (some ⟨b4, 0, none⟩))), (7, .is v), (8, .is (.int .i64 (i : Int))), (9, .is (.int .i64 (m : Int))), (10, .is (.bool true)), (11, .is (.int .i64 (q : Int)))])
        (fun q => i - q) 0 ⟨rfl, Nat.zero_le _, 0, by simp [endsN], rfl⟩ ⟨rfl, rfl, rfl, rfl, rfl, rfl, rfl, rfl, trivial⟩ ?_
      rintro q e k2 ⟨rfl, hq, m, hm, rfl⟩
      have hml := ends_len (l.take q) l[i].pid
      rw [← hm, List.length_take] at hml
      repeat (first | refine cg_seq ?_ | refine cg_region ?_ | refine rg_nil ?_ | refine eg_then ?_ | refine qsp ?_)
      refine cg_cond rfl (fun h2 => ?_) (fun h2 => ?_)
      · have hqt : q < i := by simpa using h2
        have hql : q < l.length := by omega
        obtain ⟨bz, oz, cz, ez, ⟨za, zc, ecz, _, _⟩, hcz⟩ := hl.el q l[q] (List.getElem?_eq_getElem hql)
        cases ez
        rw [ecz] at hcz
        obtain ⟨w0, w1, w2, w3, w4, w5, w6, w7, w8, w9⟩ := Batch.parts (hcz.le hle)
        have hes := ends_succ (p := l[i].pid) hql
        rw [← hm] at hes
        repeat (first | refine cg_seq ?_ | refine eg_then ?_ | refine cg_skip ?_ | refine cg_block ?_)
        refine cg_any (by kernel_rfl) rfl ?_
        repeat (first | refine qwp ?_ | refine qwi ?_ | refine qwl ?_ | refine qwf ?_)
        cases z1 : (l[q].pid == l[i].pid)
        · simp at z1
          repeat (first | refine qwp ?_ | refine qwo ?_ | (refine wn rfl ?_; refine eg_then ?_))
          repeat (first | refine cg_region ?_ | refine rg_nil ?_ | refine eg_then ?_ | refine qsp ?_ | refine qsa ?_ | refine cg_cond_false rfl ?_ | refine cg_skip ?_ | refine eg_in_normal ?_)
          exact eg_again (q + 1) _ ⟨rfl, hqt, m, by rw [hes, if_neg (by simp [z1])]; rfl, rfl⟩ (by omega) ⟨rfl, rfl, rfl, rfl, rfl, rfl, rfl, rfl, trivial⟩
        simp at z1
        repeat (first | refine qwp ?_ | refine qwi ?_ | refine qwl ?_ | refine qwf ?_ | (refine wn rfl ?_; refine eg_then ?_))
        cases z2 : (l[q].ctl != 0)
        · simp at z2
          skip
          repeat (first | refine cg_region ?_ | refine rg_nil ?_ | refine eg_then ?_ | refine qsp ?_ | refine qsa ?_ | refine cg_cond_false rfl ?_ | refine cg_skip ?_ | refine eg_in_normal ?_)
          exact eg_again (q + 1) _ ⟨rfl, hqt, m, by rw [hes, if_neg (by simp [z2])]; rfl, rfl⟩ (by omega) ⟨rfl, rfl, rfl, rfl, rfl, rfl, rfl, rfl, trivial⟩
        simp at z2
        skip
        repeat (first | refine cg_region ?_ | refine rg_nil ?_ | refine eg_then ?_ | refine qsp ?_ | refine qsa ?_ | refine cg_cond_true rfl ?_ | refine eg_in_normal ?_)
        exact eg_again (q + 1) _ ⟨rfl, hqt, m + 1, by rw [hes, if_pos (by simp [z1, z2])], rfl⟩ (by omega) ⟨rfl, rfl, rfl, rfl, rfl, rfl, rfl, rfl, trivial⟩
      · have hqe : i = q := by simp at h2; omega
        subst hqe
        obtain ⟨p0, p1, p2, p3, p4, p5, p6, p7, p8, p9⟩ := Batch.parts (hcx.le hle)
        have ctx1 := ctx.le hle
        have hcx1 := hcx.le hle
        repeat (first | refine eg_then ?_ | refine cg_exit ?_ | refine eg_then_exit ?_ | refine eg_in_exit ?_)
        refine cg_any (by kernel_rfl) rfl ?_
        repeat (first | refine qwp ?_ | refine qwi ?_ | refine qwg ?_)
        refine ws rfl (loc_call_is rfl rfl rfl rfl (committed_ct l[i] ra rc (ht.le hle))) ?_
        repeat (first | refine qwp ?_ | (refine wn rfl ?_; refine eg_then ?_))
        repeat (first | refine cg_seq ?_ | refine cg_region ?_ | refine rg_nil ?_ | refine eg_then ?_ | refine qsp ?_ | refine cg_block ?_)
        obtain ⟨dn, hdn⟩ : ∃ dn : Bool, dn = t.done.any (isP l[i]) := ⟨_, rfl⟩
        have hG : ∀ r : Rec, G r = ⟨tp, r.off, r, l[i].pid, (m : Int), dn⟩ := fun r => by rw [hG0, hdn, hm]; simp [factB, y]
        rw [← hdn]
        obtain ⟨no, hno⟩ : ∃ no : Int, no = (m : Int) := ⟨_, rfl⟩
        rw [← hno] at hG ⊢
        generalize l[i] = b at hsu hr hok hcx h100' p0 p1 p2 p3 p4 p5 p6 p7 p8 p9 c1' hG
        clear hG0 y hbi hdn hm hml hno hcx1
        refine cg_loop (fun (q : Nat) e k' => ∃ v, Le k4 k' ∧ Row F.w0.heap.size k' 65 12 v (X ++ (b.recs.take q).map G).length ((X ++ (b.recs.take q).map G).flatMap Fact.vs) ∧ Apart k4 v ∧ q ≤ b.recs.length ∧ e = [(0, .is (.slice (some ⟨bx, ox, none⟩) l.length c)), (4, .is (.pointer (some ⟨b3, 0, none⟩))), (5, .is (.pointer (some ⟨b4, 0, none⟩))), (7, .is v), (8, .is (.int .i64 (i : Int))), (9, .is (.int .i64 no)), (10, .is (.bool dn)), (12, .is (.int .i64 (q : Int)))])
          (fun q => b.recs.length - q) 0 ⟨v, hle, by simpa using hrow, hap, Nat.zero_le _, rfl⟩ ⟨rfl, rfl, rfl, rfl, rfl, rfl, rfl, rfl, trivial⟩ ?_
        clear hrow hap hle
        rintro q e k2 ⟨v, hle, hrow, hap, hq, rfl⟩
        obtain ⟨p0, p1, p2, p3, p4, p5, p6, p7, p8, p9⟩ := Batch.parts (hcx.le hle)
        repeat (first | refine cg_seq ?_ | refine cg_region ?_ | refine rg_nil ?_ | refine eg_then ?_ | refine qsp ?_ | refine qsn ?_ | refine qsi ?_ | refine qsl ?_ | refine qsf ?_)
        refine cg_cond rfl (fun h2 => ?_) (fun h2 => ?_)
        · have hqt : q < b.recs.length := by simpa using h2
          have hd := le_delV hle hap
          obtain ⟨by', oy, cy, rfl, ⟨rfl, hrok⟩, hcy⟩ := (hr.le hd).el q b.recs[q] (List.getElem?_eq_getElem hqt)
          have hXl : (X ++ (b.recs.take q).map G).length ≤ 100100 := by
            rw [List.length_append, List.length_map, List.length_take]; omega
          have hs2 : (b.recs.take (q + 1)).map G = (b.recs.take q).map G ++ [G b.recs[q]] := by
            rw [List.take_succ_eq_append_getElem hqt, List.map_append]; rfl
          have hGr := hG b.recs[q]
          generalize hrq : b.recs[q] = r at hrok hcy hs2 hGr
          obtain ⟨p0, p1, p2, p3, p4, p5, p6, p7, p8, p9⟩ := Batch.parts (hcx.le hd)
          obtain ⟨r0, _⟩ := Rec.parts hcy
          have hcy' := hcy
          have ctpd := ctp.le hd
          repeat (first | refine cg_seq ?_ | refine eg_then ?_ | refine cg_skip ?_ | refine cg_block ?_)
          refine cg_app v hrow rfl (by kernel_rfl) (by kernel_rfl) rfl rfl (m' := (X ++ (b.recs.take q).map G).length + 1) (xs' := (X ++ (b.recs.take q).map G).flatMap Fact.vs ++ (G r).vs) ?_
          repeat (first | refine qvp ?_ | refine qvi ?_ | refine qvl ?_ | refine qvg ?_ | refine qvf ?_)
          refine we_s rfl (loc_det rfl (d_lit (cells := (G r).vs) rfl rfl (by rw [hGr]; rfl))) ?_
          refine we_v rfl (loc_alloc rfl (a_slice (cells := (G r).vs) rfl rfl rfl rfl (by kernel_rfl) rfl)) ?_
          refine we_app rfl rfl rfl rfl rfl (fun k1 u _ ⟨b, hu, hkb, _⟩ => ⟨b, 0, 1, hu, cells_at hkb rfl⟩) rfl (by simp [Fact.vs, Tp.vs, Rec.vs, Value.oneCell']) rfl rfl (by unfold maxLen; omega) (by omega) ?_
          skip
          refine we_nil ⟨94, _, [(0, .is (.slice (some ⟨bx, ox, none⟩) l.length c)), (4, .is (.pointer (some ⟨b3, 0, none⟩))), (5, .is (.pointer (some ⟨b4, 0, none⟩))), (8, .is (.int .i64 (i : Int))), (9, .is (.int .i64 no)), (10, .is (.bool dn)), (12, .is (.int .i64 (q : Int)))], rfl, rfl, rfl, ⟨rfl, rfl, rfl, rfl, rfl, rfl, rfl, trivial⟩, fun v' k10 hrow10 ht10 => ?_⟩
          obtain ⟨hle10, hap10⟩ := ht10 k4 hle hap
          repeat (first | refine cg_region ?_ | refine rg_nil ?_ | refine eg_then ?_ | refine qsp ?_ | refine qsa ?_ | refine eg_in_normal ?_)
          refine eg_again (q + 1) _ ⟨v', hle10, ?_, hap10, hqt, rfl⟩ (by omega) ⟨rfl, rfl, rfl, rfl, rfl, rfl, rfl, rfl, trivial⟩
          rw [hs2, ← List.append_assoc, List.length_append, List.flatMap_append]
          simpa using hrow10
        · have hqe : q = b.recs.length := by simp at h2; omega
          subst hqe
          rw [List.take_length, ← hsu] at hrow
          repeat (first | refine cg_region ?_ | refine rg_nil ?_ | refine eg_then ?_ | refine qsp ?_ | refine qsa ?_ | refine eg_in_normal ?_ | refine cg_exit ?_ | refine eg_then_exit ?_ | refine eg_in_exit ?_)
          exact eg_again (i + 1) _ ⟨v, hle, hrow, hap, hlt, rfl⟩ (by omega) ⟨rfl, rfl, rfl, rfl, rfl, trivial⟩
  · have hil : i = l.length := by simp at h; omega
    rw [hil] at hrow
    obtain ⟨al, cl, rfl, hL⟩ := Row.sl (T := tFact) hrow (fun m hm => by
      obtain ⟨j, hj, _, r, hrm, rfl⟩ := facts_mem _ hm
      obtain ⟨_, _, _, _, ⟨ra, rc, _, hrs, hok⟩, _⟩ := hl.el j l[j] (List.getElem?_eq_getElem hj)
      obtain ⟨q, hq, rfl⟩ := List.getElem_of_mem hrm
      obtain ⟨_, _, _, _, ⟨_, hrok⟩, _⟩ := hrs.el q l[j].recs[q] (List.getElem?_eq_getElem hq)
      have he := ends_len (l.take j) l[j].pid
      rw [List.length_take] at he
      refine ⟨rfl, htp, hrok.1, hrok, hok.2.2.2.2.1, ?_, trivial⟩
      show I64 (if l[j].txn = true then (endsN (l.take j) l[j].pid : Int) else -1)
      split
      · exact ⟨by omega, by omega⟩
      · exact ⟨by omega, by omega⟩)
    repeat (first | refine cg_seq ?_ | refine cg_region ?_ | refine rg_nil ?_ | refine eg_then ?_ | refine qsp ?_ | refine cg_ret ?_ | refine cg_exit ?_ | refine eg_then_exit ?_ | refine eg_in_exit ?_)
    exact eg_return rfl rfl ⟨al, cl, rfl, hL⟩
end Go.Wm

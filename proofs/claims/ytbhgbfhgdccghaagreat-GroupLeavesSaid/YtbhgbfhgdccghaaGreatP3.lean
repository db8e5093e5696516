/-
  Whether two of a list are alike. Conditions: that what is handed in reads as data.
-/
import Derived.Test.YtbhgbfhgdccghaaGreatP1
set_option linter.all false
namespace Go.Wm
open Go.RowKit Go.Proofs
attribute [local irreducible] RG CG EG WA Loc Det Alc CT Exit.then Exit.inBlock Code.wp bodyPost
section
variable {α : Type} [DecidableEq α]
/-- The map when all that have come came once. -/
def onesE (l : List α) : List (α × Value × Nat) := l.zipIdx.map fun p => (p.1, .int .i64 1, p.2)
omit [DecidableEq α] in
theorem onesE_get (l : List α) (i : Nat) : (onesE l)[i]? = (l[i]?).map fun x => (x, Value.int .i64 1, i) := by
  simp [onesE, List.getElem?_zipIdx]
  cases l[i]? <;> simp
omit [DecidableEq α] in
theorem onesE_len (l : List α) : (onesE l).length = l.length := by simp [onesE]
theorem ones_none {l : List α} {x : α} (h : x ∉ l) (i : Nat) : lookE x (onesE l) i = none := by
  rw [lookE_none]
  intro p hp
  obtain ⟨j, hj⟩ := List.getElem?_of_mem hp
  rw [onesE_get] at hj
  cases e : l[j]? with
  | none => simp [e] at hj
  | some y =>
    simp [e] at hj
    subst hj
    rintro rfl
    exact h (List.mem_of_getElem? e)
theorem ones_some {l : List α} {x : α} (h : x ∈ l) : ∃ j, lookE x (onesE l) 0 = some (j, .int .i64 1) ∧ l[j]? = some x := by
  cases e : lookE x (onesE l) 0 with
  | none =>
    exfalso
    rw [lookE_none] at e
    obtain ⟨j, hj⟩ := List.getElem?_of_mem h
    exact e (x, .int .i64 1, j) (List.mem_of_getElem? (i := j) (by rw [onesE_get, hj]; rfl)) rfl
  | some p =>
    obtain ⟨j, v⟩ := p
    obtain ⟨_, q, h1, h2, h3⟩ := lookE_mem e
    simp only [Nat.sub_zero] at h1
    rw [onesE_get] at h1
    cases e2 : l[j]? with
    | none => simp [e2] at h1
    | some y =>
      simp [e2] at h1
      subst h1
      exact ⟨j, by rw [← h3], by rw [e2, ← h2]⟩
omit [DecidableEq α] in
theorem ones_find {l : List α} {j : Nat} (hj : j < l.length) (tl : List (α × Value × Nat)) : (onesE l ++ tl).findIdx? (fun p => p.2.2 == j) = some j := by
  rw [List.findIdx?_eq_some_iff_getElem]
  have hl : ∀ i, (hi : i < l.length) → (onesE l ++ tl)[i]'(by rw [List.length_append, onesE_len]; omega) = (l[i], .int .i64 1, i) := by
    intro i hi
    have : (onesE l ++ tl)[i]? = some (l[i], .int .i64 1, i) := by
      rw [List.getElem?_append_left (by rw [onesE_len]; exact hi), onesE_get, List.getElem?_eq_getElem hi]
      rfl
    exact List.getElem_eq_iff _ |>.2 this
  refine ⟨by rw [List.length_append, onesE_len]; omega, by rw [hl j hj]; simp, fun i hi => by rw [hl i (by omega)]; simp; omega⟩
theorem ones_ent_new {l : List α} {x : α} (h : x ∉ l) (z : Value) : entE x z (onesE l) l.length = (onesE l ++ [(x, z, l.length)], l.length + 1, l.length) := by
  simp [entE, ones_none h]
theorem ones_put_new {l : List α} (x : α) (z : Value) : putE l.length (.int .i64 1) (onesE l ++ [(x, z, l.length)]) = onesE (l ++ [x]) := by
  have hf : (onesE l ++ [(x, z, l.length)]).findIdx? (fun p => p.2.2 == l.length) = some l.length := by
    rw [List.findIdx?_append]
    have : (onesE l).findIdx? (fun p => p.2.2 == l.length) = none := by
      rw [List.findIdx?_eq_none_iff]
      intro p hp
      obtain ⟨j, hj⟩ := List.getElem?_of_mem hp
      have hlt : j < l.length := by rw [← onesE_len l]; exact (List.getElem?_eq_some_iff.1 hj).1
      rw [onesE_get, List.getElem?_eq_getElem hlt] at hj
      simp at hj
      subst hj
      simp
      omega
    rw [this]
    simp [onesE_len, List.findIdx?_cons]
  simp only [putE, hf]
  apply List.ext_getElem?
  intro j
  rw [List.getElem?_modify, onesE_get]
  by_cases hj : j < l.length
  · have : l.length ≠ j := by omega
    rw [List.getElem?_append_left (by rw [onesE_len]; exact hj), onesE_get, List.getElem?_append_left hj]
    simp [this]
  · by_cases hj2 : j = l.length
    · subst hj2
      rw [List.getElem?_append_right (by rw [onesE_len]; omega), List.getElem?_append_right (by omega)]
      simp [onesE_len]
    · rw [List.getElem?_eq_none (by rw [List.length_append, onesE_len]; simp; omega), List.getElem?_eq_none (by simp; omega)]
      simp
theorem ones_again {l : List α} {x : α} {j : Nat} (hl : lookE x (onesE l) 0 = some (j, .int .i64 1)) (hj : l[j]? = some x) (z : Value) : entE x z (onesE l) l.length = (onesE l, l.length, j) ∧ atE x z (putE j (.int .i64 2) (onesE l)) = .int .i64 2 := by
  have hlt : j < l.length := (List.getElem?_eq_some_iff.1 hj).1
  constructor
  · simp [entE, hl, onesE_get, hj]
  · have hf := ones_find hlt []
    rw [List.append_nil] at hf
    have hp : putE j (.int .i64 2) (onesE l) = (onesE l).modify j (fun p => (p.1, .int .i64 2, p.2.2)) := by simp [putE, hf]
    have aux : ∀ (es : List (α × Value × Nat)) (i j : Nat) (v : Value), lookE x es i = some (i + j, v) → lookE x (es.modify j (fun p => (p.1, .int .i64 2, p.2.2))) i = some (i + j, .int .i64 2) := by
      intro es
      induction es with
      | nil => intro i j v h; simp [lookE] at h
      | cons p r ih =>
        intro i j v h
        simp only [lookE] at h
        cases j with
        | zero =>
          simp only [List.modify_zero_cons, lookE]
          split at h
          · rename_i hx; simp [hx]
          · obtain ⟨h1, _⟩ := lookE_mem h
            omega
        | succ j =>
          simp only [List.modify_succ_cons, lookE]
          split at h
          · cases h
          · rename_i hx
            rw [if_neg hx]
            have := ih (i + 1) j v (by rw [h]; congr 2; omega)
            rw [this]
            congr 2
            omega
    have := aux (onesE l) 0 j (.int .i64 1) (by rw [hl]; simp)
    rw [hp]
    unfold atE
    rw [this]
theorem lookE_snoc {x : α} {v : Value} {m : Nat} : ∀ (es : List (α × Value × Nat)) (i : Nat), lookE x es i = none → lookE x (es ++ [(x, v, m)]) i = some (i + es.length, v)
  | [], i, _ => by simp [lookE]
  | p :: r, i, h => by
    simp only [lookE] at h
    split at h
    · cases h
    · rename_i hx
      simp only [List.cons_append, lookE, hx, if_false]
      rw [lookE_snoc r (i + 1) h]
      simp
      omega
theorem at_new {l : List α} {x : α} (h : x ∉ l) (z : Value) (m : Nat) : atE x z (onesE l ++ [(x, z, m)]) = z := by
  unfold atE
  rw [lookE_snoc _ _ (ones_none h 0)]
theorem at_none {l : List α} {x : α} (h : x ∉ l) (z : Value) : atE x z (onesE l) = z := by
  unfold atE
  rw [ones_none h 0]
theorem at_some {l : List α} {x : α} {j : Nat} (h : lookE x (onesE l) 0 = some (j, .int .i64 1)) (z : Value) : atE x z (onesE l) = .int .i64 1 := by
  unfold atE
  rw [h]
theorem ones_mem {l : List α} {j : Nat} (hj : j < l.length) : ∃ p ∈ onesE l, p.2.2 = j :=
  ⟨(l[j], .int .i64 1, j), List.mem_of_getElem? (i := j) (by rw [onesE_get, List.getElem?_eq_getElem hj]; rfl), rfl⟩
theorem nodup_take_succ {l : List α} {i : Nat} (h : i < l.length) : (l.take (i + 1)).Nodup ↔ (l.take i).Nodup ∧ l[i] ∉ l.take i := by
  rw [List.take_succ_eq_append_getElem h, List.nodup_append]
  constructor
  · rintro ⟨h1, _, h3⟩
    exact ⟨h1, fun hm => h3 _ hm _ (by simp) rfl⟩
  · rintro ⟨h1, h2⟩
    exact ⟨h1, by simp, fun a ha b hb => by simp at hb; subst hb; rintro rfl; exact h2 ha⟩
end

theorem Cells.del {k : PH} {b off r : Nat} {vs : List Value} (h : Cells k b off vs) (hne : b ≠ r) : Cells (del k r) b off vs := by
  obtain ⟨c, et, fr, h1, h2⟩ := h
  exact ⟨c, et, fr, by simp [Wm.del, hne, h1], h2⟩
set_option maxHeartbeats 1000000 in
theorem alikeTp_ct {k : PH} {a : Option Addr} {c : Nat} {l : List Tp} (hl : Sl tTp k a c l) : CT Tryz.prog 70 #[.slice a l.length c] k (fun _ v => v = .bool (!decide l.Nodup)) := by
  refine ct_of_body (l := [_]) Tryz.func70 rfl Tryz.ntmps70 (by simp) (fun _ _ _ _ h => h) fun F hF0 hFm => ?_
  have b1 := hl.cap; have b2 := hl.max; unfold maxLen at b2
  repeat (first | refine cg_seq ?_ | refine cg_region ?_ | refine rg_nil ?_ | refine eg_then ?_ | refine qsp ?_)
  refine rb rfl rfl rfl rfl (a_makeMap rfl) ?_; intro r k0 hr hNr hler hkr
  repeat (first | refine cg_seq ?_ | refine cg_region ?_ | refine rg_nil ?_ | refine eg_then ?_ | refine qsp ?_ | refine qsn ?_ | refine cg_block ?_)
  refine cg_loop (fun (i : Nat) e k' => Le k k' ∧ k' r = some (.map ((onesE (l.take i)).map (toE fun x : Tp => Value.agg x.vs.toArray)).toArray i) ∧ i ≤ l.length ∧ (l.take i).Nodup ∧ e = [(3, .is (.map (some r))), (7, .is (.slice a l.length c)), (8, .is (.int .i64 (l.length : Int))), (9, .is (.int .i64 (i : Int)))])
    (fun i => l.length - i) 0 ⟨hler, by simpa [onesE] using hkr, Nat.zero_le _, by simp, rfl⟩ ⟨rfl, rfl, rfl, rfl, trivial⟩ ?_
  rintro i e k1 ⟨hle, hk1, hi, hnd, rfl⟩
  repeat (first | refine cg_seq ?_ | refine cg_region ?_ | refine rg_nil ?_ | refine eg_then ?_ | refine qsp ?_)
  refine cg_cond rfl (fun h => ?_) (fun h => ?_)
  · have hlt : i < l.length := by simpa using h
    obtain ⟨bx, ox, cx, rfl, ⟨rfl, hxok⟩, hcx⟩ := (hl.le hle).el i l[i] (List.getElem?_eq_getElem hlt)
    repeat (first | refine cg_seq ?_ | refine cg_region ?_ | refine eg_then ?_ | refine qsi ?_ | refine qsg ?_ | refine cg_skip ?_ | refine cg_block ?_)
    refine rb rfl rfl rfl rfl (a_alloc rfl) ?_; intro b5 k5 hb5 hN5 hle5 hk5
    refine rw1 rfl rfl rfl rfl rfl rfl rfl hk5 rfl (.inl hN5) ?_ ?_; (simp [Tp.vs, Member.cs, Group.cs, Value.oneCell']); intro k6 ht6 hk6
    have c5 := cells_at (vs := (l[i]).vs) hk6 rfl
    have hle6 : Le k1 k6 := ht6 k1 hle5 hb5
    have hr6 := hle6 _ _ hk1
    have hbr : b5 ≠ r := by rintro rfl; rw [hk1] at hb5; cases hb5
    have htk : (l.take i).length = i := by simp; omega
    repeat (first | refine cg_seq ?_ | refine rg_nil ?_ | refine eg_then ?_)
    have c5d := c5.del hbr
    by_cases hmem : l[i] ∈ l.take i
    · obtain ⟨j, hj1, hj2⟩ := ones_some hmem
      have hag := ones_again hj1 hj2 (.int .i64 0)
      rw [htk] at hag
      refine cg_eff r _ (.map (((entE l[i] (.int .i64 0) (onesE (l.take i)) i).1).map (toE (fun x : Tp => Value.agg x.vs.toArray))).toArray (entE l[i] (.int .i64 0) (onesE (l.take i)) i).2.1) rfl (by kernel_rfl) (by kernel_rfl) rfl rfl hr6 hNr ?_
      dsimp only [List.dropLast]
      refine we_loc (loc_det rfl (d_pure rfl)) ?_
      refine we_loc (loc_det rfl (d_load_agg (vs := (l[i]).vs) rfl rfl rfl rfl c5d)) ?_
      refine we_two (p := .is (.int .i64 1)) (li_lookup (enc := (fun x : Tp => Value.agg x.vs.toArray)) (x := l[i]) rfl rfl rfl rfl (fun _ w hw => ⟨_, _, hw.1, at_some hj1 _⟩)) (li_lookup (enc := (fun x : Tp => Value.agg x.vs.toArray)) (x := l[i]) rfl rfl rfl rfl (fun _ w hw => by obtain ⟨_, hw⟩ := hw; exact ⟨_, _, hw.1, by rw [hag.1]; exact at_some hj1 _⟩)) ?_
      refine we_loc (loc_det rfl (d_add rfl rfl rfl (by omega) (by omega))) ?_
      refine we_eff (eff_entry (enc := (fun x : Tp => Value.agg x.vs.toArray)) (x := l[i]) rfl rfl rfl rfl hNr) ?_
      refine we_loc (loc_det rfl (d_pure rfl)) ?_
      refine we_nil ⟨rfl, ?_⟩
      rw [hag.1]
      refine r_entryStore (enc := (fun x : Tp => Value.agg x.vs.toArray)) rfl rfl rfl rfl rfl rfl rfl (upd_same _ _ _) (ones_mem (by have := (List.getElem?_eq_some_iff.1 hj2).1; exact this)) hNr ?_
      rw [upd_upd]
      have hk7 := upd_same k6 r (.map ((putE j (.int .i64 (1 + 1)) (onesE (l.take i))).map (toE (fun x : Tp => Value.agg x.vs.toArray))).toArray i)
      have c7 : Cells (upd k6 r (.map ((putE j (.int .i64 (1 + 1)) (onesE (l.take i))).map (toE (fun x : Tp => Value.agg x.vs.toArray))).toArray i)) b5 0 (l[i]).vs := by obtain ⟨c0, et, fr, h1, h2⟩ := c5; exact ⟨c0, et, fr, by rw [upd_other hbr]; exact h1, h2⟩
      generalize upd k6 r (.map ((putE j (.int .i64 (1 + 1)) (onesE (l.take i))).map (toE (fun x : Tp => Value.agg x.vs.toArray))).toArray i) = k7 at hk7 c7 ⊢
      repeat (first | refine cg_seq ?_ | refine cg_region ?_ | refine rg_nil ?_ | refine eg_then ?_ | refine qsp ?_ | refine qsg ?_)
      refine rs rfl rfl (loc_det rfl (d_lookup (enc := (fun x : Tp => Value.agg x.vs.toArray)) (x := l[i]) rfl rfl rfl hk7)) ?_
      rw [show atE l[i] (.int .i64 0) (putE j (.int .i64 (1 + 1)) (onesE (l.take i))) = .int .i64 2 from hag.2]
      repeat (first | refine cg_seq ?_ | refine cg_region ?_ | refine rg_nil ?_ | refine eg_then ?_ | refine qsp ?_ | refine cg_cond_true rfl ?_ | refine cg_ret ?_ | refine eg_then_ret ?_ | refine eg_in_ret ?_)
      refine eg_return rfl rfl ?_
      have : ¬ l.Nodup := fun hn => by
        have hn2 := (hn.sublist (List.take_sublist (i + 1) l))
        rw [nodup_take_succ hlt] at hn2
        exact hn2.2 hmem
      simp [this]
    · refine cg_eff r _ (.map (((entE l[i] (.int .i64 0) (onesE (l.take i)) i).1).map (toE (fun x : Tp => Value.agg x.vs.toArray))).toArray (entE l[i] (.int .i64 0) (onesE (l.take i)) i).2.1) rfl (by kernel_rfl) (by kernel_rfl) rfl rfl hr6 hNr ?_
      dsimp only [List.dropLast]
      have hent := ones_ent_new hmem (.int .i64 0)
      have hput := ones_put_new (l := l.take i) l[i] (.int .i64 0)
      rw [htk] at hent hput
      refine we_loc (loc_det rfl (d_pure rfl)) ?_
      refine we_loc (loc_det rfl (d_load_agg (vs := (l[i]).vs) rfl rfl rfl rfl c5d)) ?_
      refine we_two (p := .is (.int .i64 0)) (li_lookup (enc := (fun x : Tp => Value.agg x.vs.toArray)) (x := l[i]) rfl rfl rfl rfl (fun _ w hw => ⟨_, _, hw.1, at_none hmem _⟩)) (li_lookup (enc := (fun x : Tp => Value.agg x.vs.toArray)) (x := l[i]) rfl rfl rfl rfl (fun _ w hw => by obtain ⟨_, hw⟩ := hw; exact ⟨_, _, hw.1, by rw [hent]; exact at_new hmem _ _⟩)) ?_
      refine we_loc (loc_det rfl (d_add rfl rfl rfl (by omega) (by omega))) ?_
      refine we_eff (eff_entry (enc := (fun x : Tp => Value.agg x.vs.toArray)) (x := l[i]) rfl rfl rfl rfl hNr) ?_
      refine we_loc (loc_det rfl (d_pure rfl)) ?_
      refine we_nil ⟨rfl, ?_⟩
      rw [hent]
      refine r_entryStore (enc := (fun x : Tp => Value.agg x.vs.toArray)) rfl rfl rfl rfl rfl rfl rfl (upd_same _ _ _) ⟨(l[i], .int .i64 0, i), by simp, rfl⟩ hNr ?_
      rw [upd_upd, show putE i (.int .i64 (0 + 1)) (onesE (l.take i) ++ [(l[i], .int .i64 0, i)]) = onesE (l.take i ++ [l[i]]) from hput, ← List.take_succ_eq_append_getElem hlt]
      have hk7 := upd_same k6 r (.map ((onesE (l.take (i + 1))).map (toE (fun x : Tp => Value.agg x.vs.toArray))).toArray (i + 1))
      have hle7 : Le k (upd k6 r (.map ((onesE (l.take (i + 1))).map (toE (fun x : Tp => Value.agg x.vs.toArray))).toArray (i + 1))) := (hle.trans hle6).upd hr
      have c7 : Cells (upd k6 r (.map ((onesE (l.take (i + 1))).map (toE (fun x : Tp => Value.agg x.vs.toArray))).toArray (i + 1))) b5 0 (l[i]).vs := by obtain ⟨c0, et, fr, h1, h2⟩ := c5; exact ⟨c0, et, fr, by rw [upd_other hbr]; exact h1, h2⟩
      generalize upd k6 r (.map ((onesE (l.take (i + 1))).map (toE (fun x : Tp => Value.agg x.vs.toArray))).toArray (i + 1)) = k7 at hk7 hle7 c7 ⊢
      repeat (first | refine cg_seq ?_ | refine cg_region ?_ | refine rg_nil ?_ | refine eg_then ?_ | refine qsp ?_ | refine qsg ?_)
      refine rs rfl rfl (loc_det rfl (d_lookup (enc := (fun x : Tp => Value.agg x.vs.toArray)) (x := l[i]) rfl rfl rfl hk7)) ?_
      have hnd2 := (nodup_take_succ hlt).2 ⟨hnd, hmem⟩
      have hone : atE l[i] (.int .i64 0) (onesE (l.take (i + 1))) = .int .i64 1 := by
        obtain ⟨j, hj1, _⟩ := ones_some (l := l.take (i + 1)) (x := l[i]) ((mem_take_succ hlt).2 (.inr rfl))
        exact at_some hj1 _
      rw [hone]
      repeat (first | refine cg_region ?_ | refine rg_nil ?_ | refine eg_then ?_ | refine qsp ?_ | refine qsa ?_ | refine cg_cond_false rfl ?_ | refine cg_skip ?_ | refine eg_in_normal ?_)
      refine eg_again (i + 1) _ ⟨hle7, hk7, hlt, hnd2, rfl⟩ (by omega) ⟨rfl, rfl, rfl, rfl, trivial⟩
  · repeat (first | refine cg_seq ?_ | refine cg_region ?_ | refine rg_nil ?_ | refine eg_then ?_ | refine qsp ?_ | refine cg_ret ?_ | refine cg_exit ?_ | refine eg_then_exit ?_ | refine eg_in_exit ?_)
    refine eg_return rfl rfl ?_
    have : i = l.length := by simp at h; omega
    rw [this, List.take_length] at hnd
    simp [hnd]
end Go.Wm

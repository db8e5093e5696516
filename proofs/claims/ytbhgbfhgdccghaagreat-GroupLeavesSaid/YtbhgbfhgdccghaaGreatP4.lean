/-
  Whether members may be. Conditions: that what is handed in reads as data.
-/
import Derived.Test.YtbhgbfhgdccghaaGreatP3
set_option linter.all false
namespace Go.Wm
open Go.RowKit Go.Proofs
attribute [local irreducible] RG CG EG WA Loc Det Alc CT Exit.then Exit.inBlock Code.wp bodyPost
theorem ones_upd_new {α : Type} [DecidableEq α] {l : List α} {x : α} (h : x ∉ l) : updE x (.int .i64 1) (onesE l) l.length = (onesE (l ++ [x]), l.length + 1) := by
  have : onesE (l ++ [x]) = onesE l ++ [(x, .int .i64 1, l.length)] := by simp [onesE, List.zipIdx_append]
  rw [this]
  simp [updE, ones_none h]
theorem ones_upd_again {α : Type} [DecidableEq α] {l : List α} {x : α} {j : Nat} (hl : lookE x (onesE l) 0 = some (j, .int .i64 1)) (hj : l[j]? = some x) (z : Value) : updE x (.int .i64 2) (onesE l) l.length = ((updE x (.int .i64 2) (onesE l) l.length).1, l.length) ∧ atE x z (updE x (.int .i64 2) (onesE l) l.length).1 = .int .i64 2 := by
  have hlt : j < l.length := (List.getElem?_eq_some_iff.1 hj).1
  have hf := ones_find hlt []
  rw [List.append_nil] at hf
  have := (ones_again hl hj z).2
  simp only [putE, hf] at this
  simp only [updE, hl]
  exact ⟨trivial, this⟩
set_option maxHeartbeats 1000000 in
theorem alikeStr_ct {k : PH} {a : Option Addr} {c : Nat} {l : List ByteArray} (hl : Sl tStr k a c l) : CT Tryz.prog 104 #[.slice a l.length c] k (fun _ v => v = .bool (!decide l.Nodup)) := by
  refine ct_of_body (l := [_]) Tryz.func104 rfl Tryz.ntmps104 (by simp) (fun _ _ _ _ h => h) fun F hF0 hFm => ?_
  have b1 := hl.cap; have b2 := hl.max; unfold maxLen at b2
  repeat (first | refine cg_seq ?_ | refine cg_region ?_ | refine rg_nil ?_ | refine eg_then ?_ | refine qsp ?_)
  refine rb rfl rfl rfl rfl (a_makeMap rfl) ?_; intro r k0 hr hNr hler hkr
  repeat (first | refine cg_seq ?_ | refine cg_region ?_ | refine rg_nil ?_ | refine eg_then ?_ | refine qsp ?_ | refine qsn ?_ | refine cg_block ?_)
  refine cg_loop (fun (i : Nat) e k' => Le k k' ∧ k' r = some (.map ((onesE (l.take i)).map (toE fun x : ByteArray => Value.string x)).toArray i) ∧ i ≤ l.length ∧ (l.take i).Nodup ∧ e = [(3, .is (.map (some r))), (7, .is (.slice a l.length c)), (8, .is (.int .i64 (l.length : Int))), (9, .is (.int .i64 (i : Int)))])
    (fun i => l.length - i) 0 ⟨hler, by simpa [onesE] using hkr, Nat.zero_le _, by simp, rfl⟩ ⟨rfl, rfl, rfl, rfl, trivial⟩ ?_
  rintro i e k1 ⟨hle, hk1, hi, hnd, rfl⟩
  repeat (first | refine cg_seq ?_ | refine cg_region ?_ | refine rg_nil ?_ | refine eg_then ?_ | refine qsp ?_)
  refine cg_cond rfl (fun h => ?_) (fun h => ?_)
  · have hlt : i < l.length := by simpa using h
    obtain ⟨bx, ox, cx, rfl, ⟨rfl, _⟩, hcx⟩ := (hl.le hle).el i l[i] (List.getElem?_eq_getElem hlt)
    have htk : (l.take i).length = i := by simp; omega
    repeat (first | refine cg_seq ?_ | refine cg_region ?_ | refine rg_nil ?_ | refine eg_then ?_ | refine qsp ?_ | refine qsi ?_ | refine qsl ?_ | refine cg_skip ?_ | refine cg_block ?_)
    by_cases hmem : l[i] ∈ l.take i
    · obtain ⟨j, hj1, hj2⟩ := ones_some hmem
      have hag := ones_upd_again hj1 hj2 (.int .i64 0)
      rw [htk] at hag
      refine rs rfl rfl (loc_det rfl (d_lookup (enc := fun x : ByteArray => Value.string x) (x := l[i]) rfl rfl rfl hk1)) ?_
      rw [at_some hj1]
      repeat (first | refine qsa ?_)
      refine r_update (enc := fun x : ByteArray => Value.string x) (x := l[i]) rfl rfl rfl rfl rfl rfl rfl hk1 hNr ?_
      rw [show Value.int .i64 ((1 : Int) + 1) = .int .i64 2 from rfl, hag.1]
      have hk7 := upd_same k1 r (.map (((updE l[i] (.int .i64 2) (onesE (l.take i)) i).1).map (toE fun x : ByteArray => Value.string x)).toArray i)
      generalize upd k1 r (.map (((updE l[i] (.int .i64 2) (onesE (l.take i)) i).1).map (toE fun x : ByteArray => Value.string x)).toArray i) = k7 at hk7 ⊢
      repeat (first | refine cg_seq ?_ | refine cg_region ?_ | refine rg_nil ?_ | refine eg_then ?_ | refine qsp ?_)
      refine rs rfl rfl (loc_det rfl (d_lookup (enc := fun x : ByteArray => Value.string x) (x := l[i]) rfl rfl rfl hk7)) ?_
      rw [hag.2]
      repeat (first | refine cg_seq ?_ | refine cg_region ?_ | refine rg_nil ?_ | refine eg_then ?_ | refine qsp ?_ | refine cg_cond_true rfl ?_ | refine cg_ret ?_ | refine eg_then_ret ?_ | refine eg_in_ret ?_)
      refine eg_return rfl rfl ?_
      have : ¬ l.Nodup := fun hn => by
        have hn2 := (hn.sublist (List.take_sublist (i + 1) l))
        rw [nodup_take_succ hlt] at hn2
        exact hn2.2 hmem
      simp [this]
    · have hup := ones_upd_new hmem
      rw [htk] at hup
      refine rs rfl rfl (loc_det rfl (d_lookup (enc := fun x : ByteArray => Value.string x) (x := l[i]) rfl rfl rfl hk1)) ?_
      rw [at_none hmem]
      repeat (first | refine qsa ?_)
      refine r_update (enc := fun x : ByteArray => Value.string x) (x := l[i]) rfl rfl rfl rfl rfl rfl rfl hk1 hNr ?_
      rw [show Value.int .i64 ((0 : Int) + 1) = .int .i64 1 from rfl, hup, ← List.take_succ_eq_append_getElem hlt]
      have hk7 := upd_same k1 r (.map ((onesE (l.take (i + 1))).map (toE fun x : ByteArray => Value.string x)).toArray (i + 1))
      have hle7 : Le k (upd k1 r (.map ((onesE (l.take (i + 1))).map (toE fun x : ByteArray => Value.string x)).toArray (i + 1))) := hle.upd hr
      generalize upd k1 r (.map ((onesE (l.take (i + 1))).map (toE fun x : ByteArray => Value.string x)).toArray (i + 1)) = k7 at hk7 hle7 ⊢
      repeat (first | refine cg_seq ?_ | refine cg_region ?_ | refine rg_nil ?_ | refine eg_then ?_ | refine qsp ?_)
      refine rs rfl rfl (loc_det rfl (d_lookup (enc := fun x : ByteArray => Value.string x) (x := l[i]) rfl rfl rfl hk7)) ?_
      have hnd2 := (nodup_take_succ hlt).2 ⟨hnd, hmem⟩
      have hone : atE l[i] (.int .i64 0) (onesE (l.take (i + 1))) = .int .i64 1 := by
        obtain ⟨j, hj1, _⟩ := ones_some (l := l.take (i + 1)) (x := l[i]) ((mem_take_succ hlt).2 (.inr rfl))
        exact at_some hj1 _
      rw [hone]
      repeat (first | refine cg_region ?_ | refine rg_nil ?_ | refine eg_then ?_ | refine qsp ?_ | refine qsa ?_ | refine cg_cond_false rfl ?_ | refine cg_skip ?_ | refine eg_in_normal ?_)
      exact eg_again (i + 1) _ ⟨hle7, hk7, hlt, hnd2, rfl⟩ (by omega) ⟨rfl, rfl, rfl, rfl, trivial⟩
  · repeat (first | refine cg_seq ?_ | refine cg_region ?_ | refine rg_nil ?_ | refine eg_then ?_ | refine qsp ?_ | refine cg_ret ?_ | refine cg_exit ?_ | refine eg_then_exit ?_ | refine eg_in_exit ?_)
    refine eg_return rfl rfl ?_
    have : i = l.length := by simp at h; omega
    rw [this, List.take_length] at hnd
    simp [hnd]
set_option maxHeartbeats 1000000 in
theorem members_ct {k : PH} {a : Option Addr} {c : Nat} {l : List Member} (hl : Sl tMember k a c l) (hb : l.length ≤ 1099511627776) : CT Tryz.prog 69 #[.slice a l.length c] k (fun _ v => v = .bool (decide (l.map (·.id)).Nodup && !decide (ByteArray.empty ∈ l.map (·.id)))) := by
  refine ct_of_body (l := [_]) Tryz.func69 rfl Tryz.ntmps69 (by simp) (fun _ _ _ _ h => h) fun F hF0 hFm => ?_
  have b1 := hl.cap; have b2 := hl.max; unfold maxLen at b2
  repeat (first | refine cg_seq ?_ | refine cg_region ?_ | refine rg_nil ?_ | refine eg_then ?_ | refine qsp ?_ | refine qsn ?_ | refine cg_block ?_)
  refine cg_loop (fun (i : Nat) e k' => ∃ v, Le k k' ∧ Row F.w0.heap.size k' 9 1 v i ((l.take i).flatMap fun m => [Value.string m.id]) ∧ Apart k v ∧ i ≤ l.length ∧ e = [(3, .is v), (6, .is (.slice a l.length c)), (7, .is (.int .i64 (l.length : Int))), (8, .is (.int .i64 (i : Int)))])
    (fun i => l.length - i) 0 ⟨_, Le.refl _, row_nil _ _ _ _, apart_nil _ _ _, Nat.zero_le _, rfl⟩ ⟨rfl, rfl, rfl, rfl, trivial⟩ ?_
  rintro i e k1 ⟨v, hle, hrow, hap, hi, rfl⟩
  repeat (first | refine cg_seq ?_ | refine cg_region ?_ | refine rg_nil ?_ | refine eg_then ?_ | refine qsp ?_)
  refine cg_cond rfl (fun h => ?_) (fun h => ?_)
  · have hlt : i < l.length := by simpa using h
    obtain ⟨bx, ox, cx, rfl, ⟨sa, sc, oa, oc, rfl, _, _, _⟩, hcx⟩ := (hl.le hle).el i l[i] (List.getElem?_eq_getElem hlt)
    repeat (first | refine cg_seq ?_ | refine cg_region ?_ | refine eg_then ?_ | refine qsi ?_ | refine qsg ?_ | refine cg_skip ?_ | refine cg_block ?_)
    refine rb rfl rfl rfl rfl (a_alloc rfl) ?_; intro b5 k5 hb5 hN5 hle5 hk5
    refine rw1 rfl rfl rfl rfl rfl rfl rfl hk5 rfl (.inl hN5) ?_ ?_; (simp [Tp.vs, Member.cs, Group.cs, Value.oneCell']); intro k6 ht6 hk6
    have c5 := (cells_at (vs := Member.cs l[i] sa sc oa oc) hk6 rfl).one (i := 0) rfl
    have hle6 : Le k1 k6 := ht6 k1 hle5 hb5
    repeat (first | refine cg_region ?_ | refine rg_nil ?_ | refine eg_then ?_ | refine qsp ?_ | refine qsl ?_ | refine qsf ?_)
    refine rb rfl rfl rfl rfl (a_slice rfl rfl rfl rfl (by kernel_rfl) rfl) ?_; intro b7 k7 hb7 hN7 hle7 hk7
    have c7 := cells_at (vs := [Value.string l[i].id]) hk7 rfl
    refine rap rfl rfl rfl rfl rfl rfl rfl (hrow.le (hle6.trans hle7)) c7 rfl (by simp [Value.oneCell']) rfl rfl (by unfold maxLen; omega) (by omega) ?_
    intro v' k8 hrow8 hturn
    obtain ⟨hle8, hap8⟩ := hturn k (hle.trans (hle6.trans hle7)) hap
    repeat (first | refine cg_region ?_ | refine rg_nil ?_ | refine eg_then ?_ | refine qsp ?_ | refine qsa ?_ | refine eg_in_normal ?_)
    refine eg_again (i + 1) _ ⟨v', hle8, ?_, hap8, hlt, rfl⟩ (by omega) ⟨rfl, rfl, rfl, rfl, trivial⟩
    rw [List.take_succ_eq_append_getElem hlt, List.flatMap_append]
    exact hrow8
  · have hil : i = l.length := by simp at h; omega
    subst hil
    rw [List.take_length] at hrow
    have hrow2 : Row F.w0.heap.size k1 9 tStr.sz v (l.map (·.id)).length ((l.map (·.id)).flatMap fun s => [Value.string s]) := by
      show Row F.w0.heap.size k1 9 1 v (l.map (·.id)).length ((l.map (·.id)).flatMap fun s => [Value.string s])
      simpa [List.flatMap_map] using hrow
    obtain ⟨ai, ci, rfl, hsl⟩ := hrow2.sl (T := tStr) (fun s hs => by
      obtain ⟨m, hm, rfl⟩ := List.mem_map.1 hs
      obtain ⟨j, hj⟩ := List.getElem?_of_mem hm
      obtain ⟨_, _, _, _, ⟨_, _, _, _, _, _, h4⟩, _⟩ := hl.el j m hj
      have h4 := h4.1
      exact ⟨rfl, h4⟩)
    by_cases hn : (l.map (·.id)).Nodup
    · have h44 := alikeStr_ct hsl
      rw [decide_eq_true hn] at h44
      repeat (first | refine cg_seq ?_ | refine cg_region ?_ | refine eg_then ?_ | refine qsp ?_ | refine cg_exit ?_ | refine eg_then_exit ?_ | refine eg_in_exit ?_)
      refine rs rfl rfl (loc_call_is rfl rfl rfl rfl (h44)) ?_
      repeat (first | refine qsp ?_)
      refine rs rfl rfl (loc_call_is rfl rfl rfl rfl (containsStr_ct hsl ByteArray.empty)) ?_
      repeat (first | refine rg_nil ?_ | refine eg_then ?_ | refine qsp ?_ | refine cg_ret ?_)
      refine eg_return rfl rfl ?_
      rw [decide_eq_true hn]
      rfl
    · have h44 := alikeStr_ct hsl
      rw [decide_eq_false hn] at h44
      repeat (first | refine cg_seq ?_ | refine cg_region ?_ | refine eg_then ?_ | refine qsp ?_ | refine cg_exit ?_ | refine eg_then_exit ?_ | refine eg_in_exit ?_)
      refine rs rfl rfl (loc_call_is rfl rfl rfl rfl (h44)) ?_
      repeat (first | refine rg_nil ?_ | refine eg_then ?_ | refine qsp ?_ | refine qso ?_ | refine cg_ret ?_)
      refine eg_return rfl rfl ?_
      rw [decide_eq_false hn]
      rfl
end Go.Wm

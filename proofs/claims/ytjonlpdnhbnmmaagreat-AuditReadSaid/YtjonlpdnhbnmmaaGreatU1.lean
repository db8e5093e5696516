/-
  What was told, at home, the program's. Conditions: that what is handed in reads as data.
-/
import Derived.Test.YtjonlpdnhbnmmaaGreatU0
set_option linter.all false
namespace Go.Wm
open Go.RowKit Go.Proofs
attribute [local irreducible] RG CG EG WA Loc Det Alc CT Exit.then Exit.inBlock Code.wp bodyPost
set_option maxHeartbeats 1000000 in
theorem audHome_ct {k : PH} {a : Option Addr} {c : Nat} {l : List Told} (tp : Tp) (hl : Sl tTold k a c l) (hb : l.length ≤ 1000000) :
    CT Tryz.prog 53 #[.slice a l.length c, .agg tp.vs.toArray] k (fun k' v => ∃ a' c', v = .slice a' (homeP l tp).length c' ∧ Sl tTold k' a' c' (homeP l tp)) := by
  refine ct_of_body (l := [_, _]) Tryz.func53 rfl Tryz.ntmps53 (by simp) (fun k k' v hle ⟨a, c, h1, h2⟩ => ⟨a, c, h1, h2.le hle⟩) fun F hF0 hFm => ?_
  have b1 := hl.cap; have b2 := hl.max; unfold maxLen at b2
  repeat (first | refine cg_seq ?_ | refine cg_region ?_)
  refine rb rfl rfl rfl rfl (a_box rfl rfl) ?_; intro b3 k3 hb3 hN3 hle3 hk3
  have c3 := cells_at (vs := tp.vs) hk3 rfl
  repeat (first | refine cg_seq ?_ | refine cg_region ?_ | refine rg_nil ?_ | refine eg_then ?_ | refine qsp ?_ | refine qsn ?_ | refine cg_block ?_)
  refine cg_loop (fun (i : Nat) e k' => ∃ v, Le k3 k' ∧ Row F.w0.heap.size k' 63 10 v (homeP (l.take i) tp).length ((homeP (l.take i) tp).flatMap Told.vs) ∧ Apart k3 v ∧ i ≤ l.length ∧ e = [(3, .is (.pointer (some ⟨b3, 0, none⟩))), (5, .is v), (8, .is (.slice a l.length c)), (9, .is (.int .i64 (l.length : Int))), (10, .is (.int .i64 (i : Int)))])
    (fun i => l.length - i) 0 ⟨.slice none 0 0, Le.refl _, row_nil _ _ _ _, apart_nil _ _ _, Nat.zero_le _, rfl⟩ ⟨rfl, rfl, rfl, rfl, rfl, trivial⟩ ?_
  rintro i e k1 ⟨v, hle, hrow, hap, hi, rfl⟩
  repeat (first | refine cg_seq ?_ | refine cg_region ?_ | refine rg_nil ?_ | refine eg_then ?_ | refine qsp ?_)
  refine cg_cond rfl (fun h => ?_) (fun h => ?_)
  · have hlt : i < l.length := by simpa using h
    obtain ⟨bx, ox, cx, rfl, ⟨rfl, hok⟩, hcx⟩ := (hl.le (hle3.trans hle)).el i l[i] (List.getElem?_eq_getElem hlt)
    have hlen := homeP_len l tp i
    repeat (first | refine cg_seq ?_ | refine cg_region ?_ | refine eg_then ?_ | refine qsi ?_ | refine qsg ?_ | refine cg_skip ?_ | refine cg_block ?_)
    refine rb rfl rfl rfl rfl (a_alloc rfl) ?_; intro b7 k7 hb7 hN7 hle7 hk7
    skip
    refine rw1 rfl rfl rfl rfl rfl rfl rfl hk7 rfl (.inl hN7) ?_ ?_; (simp [Tp.vs, Mark.vs, OpenT.vs, Gone.vs, Tx.cs, View.cs, Rec.vs, Batch.cs, Who.vs, Pl.vs, Told.vs, Fact.vs, Place.vs, Value.oneCell']); intro k8 ht8 hk8
    have c8 := cells_at (vs := l[i].vs) hk8 rfl
    have hle8 : Le k1 k8 := ht8 k1 hle7 hb7
    have hc3 := c3.le (hle.trans hle8)
    obtain ⟨p0, p1, p2, p3⟩ := Told.parts c8
    repeat (first | refine cg_seq ?_ | refine cg_region ?_ | refine rg_nil ?_ | refine eg_then ?_ | refine qsg ?_ | refine qsf ?_ | refine qsE ?_)
    refine cg_cond rfl (fun h2 => ?_) (fun h2 => ?_)
    · have he : l[i].tp = tp := by simpa using h2
      repeat (first | refine cg_seq ?_ | refine cg_region ?_ | refine qsl ?_ | refine qsf ?_)
      refine rw0 rfl rfl rfl rfl rfl rfl rfl rfl hk8 ?_ (.inl hN7) ?_
      · simp [Told.vs]
      intro k9 ht9 hk9
      have hle9 : Le k1 k9 := ht9 k1 hle8 hb7
      have c9 := cells_at (vs := ({ l[i] with off := l[i].fromV } : Told).vs) hk9 rfl
      obtain ⟨p0, p1, p2, p3⟩ := Told.parts c9
      repeat (first | refine qsf ?_)
      refine rw0 rfl rfl rfl rfl rfl rfl rfl rfl hk9 ?_ (.inl hN7) ?_
      · simp [Told.vs]
      intro k10 ht10 hk10
      have hle10 : Le k1 k10 := ht10 k1 hle9 hb7
      have c10 := cells_at (vs := (homeT l[i]).vs) hk10 rfl
      repeat (first | refine cg_region ?_ | refine rg_nil ?_ | refine eg_then ?_ | refine qsp ?_ | refine qsg ?_)
      refine rb rfl rfl rfl rfl (a_slice rfl rfl rfl rfl (by kernel_rfl) rfl) ?_; intro b11 k11 hb11 hN11 hle11 hk11
      have c11 := cells_at (vs := (homeT l[i]).vs) hk11 rfl
      refine rap rfl rfl rfl rfl rfl rfl rfl (hrow.le (hle10.trans hle11)) c11 rfl (by simp [Told.vs, Value.oneCell']) rfl rfl (by unfold maxLen; omega) (by omega) ?_
      intro v' k12 hrow12 hturn
      obtain ⟨hle12, hap12⟩ := hturn k3 (hle.trans (hle10.trans hle11)) hap
      repeat (first | refine cg_region ?_ | refine rg_nil ?_ | refine eg_then ?_ | refine qsp ?_ | refine qsa ?_ | refine eg_in_normal ?_)
      refine eg_again (i + 1) _ ⟨v', hle12, ?_, hap12, hlt, rfl⟩ (by omega) ⟨rfl, rfl, rfl, rfl, rfl, trivial⟩
      rw [homeP_succ hlt, if_pos he, List.flatMap_append, List.length_append]
      simpa using hrow12
    · repeat (first | refine cg_region ?_ | refine rg_nil ?_ | refine eg_then ?_ | refine qsp ?_ | refine qsa ?_ | refine cg_skip ?_ | refine eg_in_normal ?_)
      refine eg_again (i + 1) _ ⟨v, hle.trans hle8, ?_, hap, hlt, rfl⟩ (by omega) ⟨rfl, rfl, rfl, rfl, rfl, trivial⟩
      have hne : ¬ l[i].tp = tp := by simpa using h2
      rw [homeP_succ hlt, if_neg hne, List.append_nil]
      exact hrow.le hle8
  · repeat (first | refine cg_seq ?_ | refine cg_region ?_ | refine rg_nil ?_ | refine eg_then ?_ | refine qsp ?_ | refine cg_ret ?_ | refine cg_exit ?_ | refine eg_then_exit ?_ | refine eg_in_exit ?_)
    have hil : i = l.length := by simp at h; omega
    rw [hil, List.take_length] at hrow
    obtain ⟨ai, ci, rfl, hsl⟩ := Row.sl (T := tTold) hrow (fun x hx => ⟨rfl, homeP_ok (told_ok hl) x hx⟩)
    refine eg_return rfl rfl ⟨ai, ci, rfl, hsl⟩
end Go.Wm

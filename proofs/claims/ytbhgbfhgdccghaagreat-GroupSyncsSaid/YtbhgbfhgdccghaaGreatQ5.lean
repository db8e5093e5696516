/-
  Whether another has it: the document's. Conditions: that what is handed in reads as data.
-/
import Derived.Test.YtbhgbfhgdccghaaGreatQ3
import Derived.Test.YtbhgbfhgdccghaaGreatP10
set_option linter.all false
namespace Go.Wm
open Go.RowKit Go.Proofs
attribute [local irreducible] RG CG EG WA Loc Det Alc CT Exit.then Exit.inBlock Code.wp bodyPost
def othB (l : List Member) (i : Nat) (tp : Tp) : Bool := (List.range l.length).any fun j => !decide (j = i) && decide (tp ∈ ((l[j]?).map (·.own)).getD [])
theorem oth_any {l : List Member} {i : Nat} (h : i < l.length) {tp : Tp} (hn : tp ∉ l[i].own) : othB l i tp = l.any fun m => decide (tp ∈ m.own) := by
  rw [Bool.eq_iff_iff]
  unfold othB
  rw [List.any_eq_true, List.any_eq_true]
  constructor
  · rintro ⟨j, hj, h2⟩
    rw [List.mem_range] at hj
    rw [List.getElem?_eq_getElem hj] at h2
    simp only [Option.map_some, Option.getD_some, Bool.and_eq_true] at h2
    exact ⟨l[j], List.getElem_mem hj, h2.2⟩
  · rintro ⟨m, hm, h2⟩
    obtain ⟨j, hj, rfl⟩ := List.mem_iff_getElem.1 hm
    refine ⟨j, by simpa using hj, ?_⟩
    rw [List.getElem?_eq_getElem hj]
    simp only [Option.map_some, Option.getD_some, Bool.and_eq_true]
    refine ⟨?_, h2⟩
    have : j ≠ i := by
      rintro rfl
      simp only [decide_eq_true_eq] at h2
      exact hn h2
    simp [this]
theorem give_oth {l : List Member} {i : Nat} (h : i < l.length) (tp : Tp) : giveB l i tp = (decide (tp ∈ l[i].own) || !othB l i tp) := by
  unfold giveB
  rw [List.getElem?_eq_getElem h]
  simp only [Option.map_some, Option.getD_some]
  by_cases hm : tp ∈ l[i].own
  · simp [hm]
  · rw [oth_any h hm]
set_option maxHeartbeats 1000000 in
theorem others_ct {k : PH} {a : Option Addr} {c : Nat} {l : List Member} (hl : Sl tMember k a c l) (i : Nat) (tp : Tp) :
    CT Tryz.prog 88 #[.slice a l.length c, .int .i64 (i : Int), .agg tp.vs.toArray] k (fun _ v => v = .bool (othB l i tp)) := by
  refine ct_of_body (l := [_, _, _]) Tryz.func88 rfl Tryz.ntmps88 (by simp) (fun _ _ _ _ h => h) fun F hF0 hFm => ?_
  have b1 := hl.cap; have b2 := hl.max; unfold maxLen at b2
  repeat (first | refine cg_seq ?_ | refine cg_region ?_)
  refine rb rfl rfl rfl rfl (a_box rfl rfl) ?_; intro b3 k3 hb3 hN3 hle3 hk3
  have c3 := cells_at (vs := tp.vs) hk3 rfl
  repeat (first | refine cg_seq ?_ | refine cg_region ?_ | refine rg_nil ?_ | refine eg_then ?_ | refine qsp ?_ | refine qsn ?_ | refine cg_block ?_)
  refine cg_loop (fun (j : Nat) e k' => Le k3 k' ∧ j ≤ l.length ∧ (∀ q, q < j → (!decide (q = i) && decide (tp ∈ ((l[q]?).map (·.own)).getD [])) = false) ∧ e = [(0, .is (.slice a l.length c)), (1, .is (.int .i64 (i : Int))), (5, .is (.pointer (some ⟨b3, 0, none⟩))), (9, .is (.slice a l.length c)), (10, .is (.int .i64 (l.length : Int))), (11, .is (.int .i64 (j : Int)))])
    (fun j => l.length - j) 0 ⟨Le.refl _, Nat.zero_le _, fun q hq => by omega, rfl⟩ ⟨rfl, rfl, rfl, rfl, rfl, rfl, trivial⟩ ?_
  rintro j e k1 ⟨hle, hj, hno, rfl⟩
  repeat (first | refine cg_seq ?_ | refine cg_region ?_ | refine rg_nil ?_ | refine eg_then ?_ | refine qsp ?_)
  refine cg_cond rfl (fun h => ?_) (fun h => ?_)
  · have hlt : j < l.length := by simpa using h
    obtain ⟨mj, hmj⟩ : ∃ mj, l[j]? = some mj := ⟨_, List.getElem?_eq_getElem hlt⟩
    obtain ⟨bx, ox, cx, rfl, ⟨sa, sc, oa, oc, rfl, ⟨_, hown⟩, _⟩, hcx⟩ := (hl.le (hle3.trans hle)).el j mj hmj
    repeat (first | refine cg_seq ?_ | refine cg_region ?_ | refine eg_then ?_ | refine qsp ?_ | refine qsi ?_ | refine qsg ?_ | refine cg_skip ?_ | refine cg_block ?_)
    refine rb rfl rfl rfl rfl (a_alloc rfl) ?_; intro b5 k5 hb5 hN5 hle5 hk5
    repeat (first | refine qsp ?_)
    refine rw1 rfl rfl rfl rfl rfl rfl rfl hk5 rfl (.inl hN5) ?_ ?_; (simp [Tp.vs, Member.cs, Group.cs, Value.oneCell']); intro k6 ht6 hk6
    have hle6 : Le k1 k6 := ht6 k1 hle5 hb5
    have c5 := (cells_at (vs := Member.cs mj sa sc oa oc) hk6 rfl).one (i := 3) rfl
    have c3' := c3.le (hle.trans hle6)
    have next : (!decide (j = i) && decide (tp ∈ mj.own)) = false → ∀ q, q < j + 1 → (!decide (q = i) && decide (tp ∈ ((l[q]?).map (·.own)).getD [])) = false := fun hf q hq => by
      by_cases hqj : q = j
      · subst hqj; rw [hmj]; exact hf
      · exact hno q (by omega)
    by_cases hji : j = i
    · have q1 : ((j : Int) != (i : Int)) = false := by simp [hji]
      repeat (first | refine cg_seq ?_ | refine cg_region ?_ | refine rg_nil ?_ | refine eg_then ?_ | refine qsp ?_)
      rw [q1]
      repeat (first | refine cg_region ?_ | refine rg_nil ?_ | refine eg_then ?_ | refine qsp ?_ | refine qsa ?_ | refine qso ?_ | refine cg_cond_false rfl ?_ | refine cg_skip ?_ | refine eg_in_normal ?_)
      exact eg_again (j + 1) _ ⟨hle.trans hle6, hlt, next (by simp [hji]), rfl⟩ (by omega) ⟨rfl, rfl, rfl, rfl, rfl, rfl, trivial⟩
    · have q1 : ((j : Int) != (i : Int)) = true := by simp; omega
      have hhas := has22_ct (hown.le hle6) tp
      repeat (first | refine cg_seq ?_ | refine cg_region ?_ | refine rg_nil ?_ | refine eg_then ?_ | refine qsp ?_)
      rw [q1]
      repeat (first | refine qsl ?_ | refine qsg ?_ | refine qsf ?_)
      by_cases hm : tp ∈ mj.own
      · rw [decide_eq_true hm] at hhas
        refine rs rfl rfl (loc_call_is rfl rfl rfl rfl (hhas)) ?_
        repeat (first | refine cg_seq ?_ | refine cg_region ?_ | refine rg_nil ?_ | refine eg_then ?_ | refine qsp ?_ | refine cg_cond_true rfl ?_ | refine cg_ret ?_ | refine eg_then_ret ?_ | refine eg_in_ret ?_)
        refine eg_return rfl rfl ?_
        have : othB l i tp = true := by
          unfold othB
          rw [List.any_eq_true]
          refine ⟨j, by simpa using hlt, ?_⟩
          rw [hmj]
          simp [hji, hm]
        rw [this]
      · rw [decide_eq_false hm] at hhas
        refine rs rfl rfl (loc_call_is rfl rfl rfl rfl (hhas)) ?_
        repeat (first | refine cg_region ?_ | refine rg_nil ?_ | refine eg_then ?_ | refine qsp ?_ | refine qsa ?_ | refine cg_cond_false rfl ?_ | refine cg_skip ?_ | refine eg_in_normal ?_)
        exact eg_again (j + 1) _ ⟨hle.trans hle6, hlt, next (by simp [hm]), rfl⟩ (by omega) ⟨rfl, rfl, rfl, rfl, rfl, rfl, trivial⟩
  · have hjl : j = l.length := by simp at h; omega
    subst hjl
    repeat (first | refine cg_seq ?_ | refine cg_region ?_ | refine rg_nil ?_ | refine eg_then ?_ | refine qsp ?_ | refine cg_ret ?_ | refine cg_exit ?_ | refine eg_then_exit ?_ | refine eg_in_exit ?_)
    refine eg_return rfl rfl ?_
    have : othB l i tp = false := by
      unfold othB
      rw [List.any_eq_false]
      intro q hq
      rw [hno q (by simpa using hq)]
      simp
    rw [this]
end Go.Wm

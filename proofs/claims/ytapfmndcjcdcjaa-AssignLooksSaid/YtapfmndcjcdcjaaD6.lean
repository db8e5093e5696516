/-
  The reference answer's round, its moves, and whether a share is little. Conditions: that what is handed in reads as data, and that it is little.
-/
import Derived.Test.YtapfmndcjcdcjaaD5
import Derived.Test.YtapfmndcjcdcjaaB1
set_option linter.all false
namespace Go.Wm
open Go.RowKit Go.Proofs
attribute [local irreducible] RG CG EG WA Loc Det Alc CT Exit.then Exit.inBlock Code.wp bodyPost

def othB (l : List Mem) (i : Nat) (tp : Tp) : Bool := (List.range l.length).any fun j => !decide (j = i) && decide (tp ∈ ((l[j]?).map (·.own)).getD [])
theorem oth_any {l : List Mem} {i : Nat} (h : i < l.length) {tp : Tp} (hn : tp ∉ l[i].own) : othB l i tp = l.any fun m => decide (tp ∈ m.own) := by
  rw [Bool.eq_iff_iff]
  unfold othB
  rw [List.any_eq_true, List.any_eq_true]
  constructor
  · rintro ⟨j, hj, h2⟩
    rw [List.mem_range] at hj
    rw [List.getElem?_eq_getElem hj] at h2
    simp only [Option.map_some, Option.getD_some, Bool.and_eq_true] at h2
    exact ⟨l[j], List.getElem_mem hj, h2.2⟩
  · rintro ⟨m, hm, h2⟩
    obtain ⟨j, hj, rfl⟩ := List.mem_iff_getElem.1 hm
    refine ⟨j, by simpa using hj, ?_⟩
    rw [List.getElem?_eq_getElem hj]
    simp only [Option.map_some, Option.getD_some, Bool.and_eq_true]
    refine ⟨?_, h2⟩
    have : j ≠ i := by
      rintro rfl
      simp only [decide_eq_true_eq] at h2
      exact hn h2
    simp [this]
theorem give_oth {l : List Mem} {i : Nat} (h : i < l.length) (tp : Tp) : giveB l i tp = (decide (tp ∈ l[i].own) || !othB l i tp) := by
  unfold giveB
  rw [List.getElem?_eq_getElem h]
  simp only [Option.map_some, Option.getD_some]
  by_cases hm : tp ∈ l[i].own
  · simp [hm]
  · rw [oth_any h hm]
theorem mv_oth {l : List Mem} {i : Nat} (h : i < l.length) (tp : Tp) : mvB l i tp = (!decide (tp ∈ l[i].own) && othB l i tp) := by
  unfold mvB
  rw [List.getElem?_eq_getElem h]
  simp only [Option.map_some, Option.getD_some]
  by_cases hm : tp ∈ l[i].own
  · simp [hm]
  · rw [oth_any h hm]

set_option maxHeartbeats 1000000 in
theorem others_ct {k : PH} {a : Option Addr} {c : Nat} {l : List Mem} (hl : Sl tMem k a c l) (i : Nat) (tp : Tp) :
    CT Try.prog 41 #[.slice a l.length c, .int .i64 (i : Int), .agg tp.vs.toArray] k (fun _ v => v = .bool (othB l i tp)) := by
  refine ct_of_body (l := [_, _, _]) Try.func41 rfl Try.ntmps41 (by simp) (fun _ _ _ _ h => h) fun F hF0 hFm => ?_
  have b1 := hl.cap; have b2 := hl.max; unfold maxLen at b2
  repeat (first | refine cg_seq ?_ | refine cg_region ?_ | refine rg_nil ?_ | refine eg_then ?_ | refine qsp ?_ | refine qsn ?_ | refine qsa ?_ | refine qss ?_ | refine qsi ?_ | refine qsz ?_ | refine qsl ?_ | refine qsg ?_ | refine qsf ?_ | refine qsd ?_ | refine qse ?_ | refine qsx ?_ | refine qso ?_ | refine cg_cond_true rfl ?_ | refine cg_cond_false rfl ?_ | refine cg_skip ?_ | refine cg_block ?_ | refine eg_in_normal ?_ | refine cg_ret ?_ | refine eg_then_ret ?_ | refine eg_in_ret ?_ | refine cg_exit ?_ | refine eg_then_exit ?_ | refine eg_in_exit ?_ | refine eg_in_other rfl ?_)
  refine rb rfl rfl rfl rfl (a_box rfl rfl) ?_; intro b3 k3 hb3 hN3 hle3 hk3
  have c3 := cells_at (vs := tp.vs) hk3 rfl
  repeat (first | refine cg_seq ?_ | refine cg_region ?_ | refine rg_nil ?_ | refine eg_then ?_ | refine qsp ?_ | refine qsn ?_ | refine qsa ?_ | refine qss ?_ | refine qsi ?_ | refine qsz ?_ | refine qsl ?_ | refine qsg ?_ | refine qsf ?_ | refine qsd ?_ | refine qse ?_ | refine qsx ?_ | refine qso ?_ | refine cg_cond_true rfl ?_ | refine cg_cond_false rfl ?_ | refine cg_skip ?_ | refine cg_block ?_ | refine eg_in_normal ?_ | refine cg_ret ?_ | refine eg_then_ret ?_ | refine eg_in_ret ?_ | refine cg_exit ?_ | refine eg_then_exit ?_ | refine eg_in_exit ?_ | refine eg_in_other rfl ?_)
  refine cg_loop (fun (j : Nat) e k' => Le k3 k' ∧ j ≤ l.length ∧ (∀ q, q < j → (!decide (q = i) && decide (tp ∈ ((l[q]?).map (·.own)).getD [])) = false) ∧ e = [(0, .is (.slice a l.length c)), (1, .is (.int .i64 (i : Int))), (5, .is (.pointer (some ⟨b3, 0, none⟩))), (9, .is (.slice a l.length c)), (10, .is (.int .i64 (l.length : Int))), (11, .is (.int .i64 (j : Int)))])
    (fun j => l.length - j) 0 ⟨Le.refl _, Nat.zero_le _, fun q hq => by omega, rfl⟩ ⟨rfl, rfl, rfl, rfl, rfl, rfl, trivial⟩ ?_
  rintro j e k1 ⟨hle, hj, hno, rfl⟩
  repeat (first | refine cg_seq ?_ | refine cg_region ?_ | refine rg_nil ?_ | refine eg_then ?_ | refine qsp ?_ | refine qsn ?_ | refine qsa ?_ | refine qss ?_ | refine qsi ?_ | refine qsz ?_ | refine qsl ?_ | refine qsg ?_ | refine qsf ?_ | refine qsd ?_ | refine qse ?_ | refine qsx ?_ | refine qso ?_ | refine cg_cond_true rfl ?_ | refine cg_cond_false rfl ?_ | refine cg_skip ?_ | refine cg_block ?_ | refine eg_in_normal ?_ | refine cg_ret ?_ | refine eg_then_ret ?_ | refine eg_in_ret ?_ | refine cg_exit ?_ | refine eg_then_exit ?_ | refine eg_in_exit ?_ | refine eg_in_other rfl ?_)
  refine cg_cond rfl (fun h => ?_) (fun h => ?_)
  · have hlt : j < l.length := by simpa using h
    obtain ⟨mj, hmj⟩ : ∃ mj, l[j]? = some mj := ⟨_, List.getElem?_eq_getElem hlt⟩
    obtain ⟨bx, ox, cx, rfl, ⟨sa, sc, oa, oc, rfl, _, hown, _⟩, hcx⟩ := (hl.le (hle3.trans hle)).el j mj hmj
    repeat (first | refine cg_seq ?_ | refine cg_region ?_ | refine rg_nil ?_ | refine eg_then ?_ | refine qsp ?_ | refine qsn ?_ | refine qsa ?_ | refine qss ?_ | refine qsi ?_ | refine qsz ?_ | refine qsl ?_ | refine qsg ?_ | refine qsf ?_ | refine qsd ?_ | refine qse ?_ | refine qsx ?_ | refine qso ?_ | refine cg_cond_true rfl ?_ | refine cg_cond_false rfl ?_ | refine cg_skip ?_ | refine cg_block ?_ | refine eg_in_normal ?_ | refine cg_ret ?_ | refine eg_then_ret ?_ | refine eg_in_ret ?_ | refine cg_exit ?_ | refine eg_then_exit ?_ | refine eg_in_exit ?_ | refine eg_in_other rfl ?_)
    refine rb rfl rfl rfl rfl (a_alloc rfl) ?_; intro b5 k5 hb5 hN5 hle5 hk5
    repeat (first | refine cg_seq ?_ | refine cg_region ?_ | refine rg_nil ?_ | refine eg_then ?_ | refine qsp ?_ | refine qsn ?_ | refine qsa ?_ | refine qss ?_ | refine qsi ?_ | refine qsz ?_ | refine qsl ?_ | refine qsg ?_ | refine qsf ?_ | refine qsd ?_ | refine qse ?_ | refine qsx ?_ | refine qso ?_ | refine cg_cond_true rfl ?_ | refine cg_cond_false rfl ?_ | refine cg_skip ?_ | refine cg_block ?_ | refine eg_in_normal ?_ | refine cg_ret ?_ | refine eg_then_ret ?_ | refine eg_in_ret ?_ | refine cg_exit ?_ | refine eg_then_exit ?_ | refine eg_in_exit ?_ | refine eg_in_other rfl ?_)
    refine rw1 rfl rfl rfl rfl rfl rfl rfl hk5 rfl (.inl hN5) ?_ ?_; (simp [Tp.vs, memVs, Value.oneCell']); intro k6 ht6 hk6
    have hle6 : Le k1 k6 := ht6 k1 hle5 hb5
    have c5 := (cells_at (vs := memVs mj sa sc oa oc) hk6 rfl).one (i := 3) rfl
    have c3' := c3.le (hle.trans hle6)
    have next : (!decide (j = i) && decide (tp ∈ mj.own)) = false → ∀ q, q < j + 1 → (!decide (q = i) && decide (tp ∈ ((l[q]?).map (·.own)).getD [])) = false := fun hf q hq => by
      by_cases hqj : q = j
      · subst hqj; rw [hmj]; exact hf
      · exact hno q (by omega)
    by_cases hji : j = i
    · have q1 : ((j : Int) != (i : Int)) = false := by simp [hji]
      repeat (first | refine cg_seq ?_ | refine cg_region ?_ | refine rg_nil ?_ | refine eg_then ?_ | refine qsp ?_ | refine qsn ?_ | refine qsa ?_ | refine qss ?_ | refine qsi ?_ | refine qsz ?_ | refine qsl ?_ | refine qsg ?_ | refine qsf ?_ | refine qsd ?_ | refine qse ?_ | refine qsx ?_ | refine qso ?_ | refine cg_cond_true rfl ?_ | refine cg_cond_false rfl ?_ | refine cg_skip ?_ | refine cg_block ?_ | refine eg_in_normal ?_ | refine cg_ret ?_ | refine eg_then_ret ?_ | refine eg_in_ret ?_ | refine cg_exit ?_ | refine eg_then_exit ?_ | refine eg_in_exit ?_ | refine eg_in_other rfl ?_)
      rw [q1]
      repeat (first | refine cg_seq ?_ | refine cg_region ?_ | refine rg_nil ?_ | refine eg_then ?_ | refine qsp ?_ | refine qsn ?_ | refine qsa ?_ | refine qss ?_ | refine qsi ?_ | refine qsz ?_ | refine qsl ?_ | refine qsg ?_ | refine qsf ?_ | refine qsd ?_ | refine qse ?_ | refine qsx ?_ | refine qso ?_ | refine cg_cond_true rfl ?_ | refine cg_cond_false rfl ?_ | refine cg_skip ?_ | refine cg_block ?_ | refine eg_in_normal ?_ | refine cg_ret ?_ | refine eg_then_ret ?_ | refine eg_in_ret ?_ | refine cg_exit ?_ | refine eg_then_exit ?_ | refine eg_in_exit ?_ | refine eg_in_other rfl ?_)
      exact eg_again (j + 1) _ ⟨hle.trans hle6, hlt, next (by simp [hji]), rfl⟩ (by omega) ⟨rfl, rfl, rfl, rfl, rfl, rfl, trivial⟩
    · have q1 : ((j : Int) != (i : Int)) = true := by simp; omega
      have hhas := has_ct (hown.le hle6) tp
      repeat (first | refine cg_seq ?_ | refine cg_region ?_ | refine rg_nil ?_ | refine eg_then ?_ | refine qsp ?_ | refine qsn ?_ | refine qsa ?_ | refine qss ?_ | refine qsi ?_ | refine qsz ?_ | refine qsl ?_ | refine qsg ?_ | refine qsf ?_ | refine qsd ?_ | refine qse ?_ | refine qsx ?_ | refine qso ?_ | refine cg_cond_true rfl ?_ | refine cg_cond_false rfl ?_ | refine cg_skip ?_ | refine cg_block ?_ | refine eg_in_normal ?_ | refine cg_ret ?_ | refine eg_then_ret ?_ | refine eg_in_ret ?_ | refine cg_exit ?_ | refine eg_then_exit ?_ | refine eg_in_exit ?_ | refine eg_in_other rfl ?_)
      rw [q1]
      repeat (first | refine cg_seq ?_ | refine cg_region ?_ | refine rg_nil ?_ | refine eg_then ?_ | refine qsp ?_ | refine qsn ?_ | refine qsa ?_ | refine qss ?_ | refine qsi ?_ | refine qsz ?_ | refine qsl ?_ | refine qsg ?_ | refine qsf ?_ | refine qsd ?_ | refine qse ?_ | refine qsx ?_ | refine qso ?_ | refine cg_cond_true rfl ?_ | refine cg_cond_false rfl ?_ | refine cg_skip ?_ | refine cg_block ?_ | refine eg_in_normal ?_ | refine cg_ret ?_ | refine eg_then_ret ?_ | refine eg_in_ret ?_ | refine cg_exit ?_ | refine eg_then_exit ?_ | refine eg_in_exit ?_ | refine eg_in_other rfl ?_)
      by_cases hm : tp ∈ mj.own
      · rw [decide_eq_true hm] at hhas
        refine rs rfl rfl (loc_call_is rfl rfl rfl rfl (hhas)) ?_
        repeat (first | refine cg_seq ?_ | refine cg_region ?_ | refine rg_nil ?_ | refine eg_then ?_ | refine qsp ?_ | refine qsn ?_ | refine qsa ?_ | refine qss ?_ | refine qsi ?_ | refine qsz ?_ | refine qsl ?_ | refine qsg ?_ | refine qsf ?_ | refine qsd ?_ | refine qse ?_ | refine qsx ?_ | refine qso ?_ | refine cg_cond_true rfl ?_ | refine cg_cond_false rfl ?_ | refine cg_skip ?_ | refine cg_block ?_ | refine eg_in_normal ?_ | refine cg_ret ?_ | refine eg_then_ret ?_ | refine eg_in_ret ?_ | refine cg_exit ?_ | refine eg_then_exit ?_ | refine eg_in_exit ?_ | refine eg_in_other rfl ?_)
        refine eg_return rfl rfl ?_
        have : othB l i tp = true := by
          unfold othB
          rw [List.any_eq_true]
          refine ⟨j, by simpa using hlt, ?_⟩
          rw [hmj]
          simp [hji, hm]
        rw [this]
      · rw [decide_eq_false hm] at hhas
        refine rs rfl rfl (loc_call_is rfl rfl rfl rfl (hhas)) ?_
        repeat (first | refine cg_seq ?_ | refine cg_region ?_ | refine rg_nil ?_ | refine eg_then ?_ | refine qsp ?_ | refine qsn ?_ | refine qsa ?_ | refine qss ?_ | refine qsi ?_ | refine qsz ?_ | refine qsl ?_ | refine qsg ?_ | refine qsf ?_ | refine qsd ?_ | refine qse ?_ | refine qsx ?_ | refine qso ?_ | refine cg_cond_true rfl ?_ | refine cg_cond_false rfl ?_ | refine cg_skip ?_ | refine cg_block ?_ | refine eg_in_normal ?_ | refine cg_ret ?_ | refine eg_then_ret ?_ | refine eg_in_ret ?_ | refine cg_exit ?_ | refine eg_then_exit ?_ | refine eg_in_exit ?_ | refine eg_in_other rfl ?_)
        exact eg_again (j + 1) _ ⟨hle.trans hle6, hlt, next (by simp [hm]), rfl⟩ (by omega) ⟨rfl, rfl, rfl, rfl, rfl, rfl, trivial⟩
  · have hjl : j = l.length := by simp at h; omega
    subst hjl
    repeat (first | refine cg_seq ?_ | refine cg_region ?_ | refine rg_nil ?_ | refine eg_then ?_ | refine qsp ?_ | refine qsn ?_ | refine qsa ?_ | refine qss ?_ | refine qsi ?_ | refine qsz ?_ | refine qsl ?_ | refine qsg ?_ | refine qsf ?_ | refine qsd ?_ | refine qse ?_ | refine qsx ?_ | refine qso ?_ | refine cg_cond_true rfl ?_ | refine cg_cond_false rfl ?_ | refine cg_skip ?_ | refine cg_block ?_ | refine eg_in_normal ?_ | refine cg_ret ?_ | refine eg_then_ret ?_ | refine eg_in_ret ?_ | refine cg_exit ?_ | refine eg_then_exit ?_ | refine eg_in_exit ?_ | refine eg_in_other rfl ?_)
    refine eg_return rfl rfl ?_
    have : othB l i tp = false := by
      unfold othB
      rw [List.any_eq_false]
      intro q hq
      rw [hno q (by simpa using hq)]
      simp
    rw [this]

set_option maxHeartbeats 1000000 in
theorem refMoves_ct {k : PH} {a b : Option Addr} {c d : Nat} {l : List Mem} {own : List (List Tp)} (hl : Sl tMem k a c l) (ho : Sl (tSl tTp) k b d own) (hsum : lenTo own (min own.length l.length) ≤ 1000000) :
    CT Try.prog 24 #[.slice a l.length c, .slice b own.length d] k (fun k' v => v = .int .i64 (movesM l own : Nat)) := by
  refine ct_of_body (l := [_, _]) Try.func24 rfl Try.ntmps24 (by simp) (fun _ _ _ _ h => h) fun F hF0 hFm => ?_
  have b1 := hl.cap; have b2 := hl.max; unfold maxLen at b2
  have b3 := ho.cap; have b4 := ho.max; unfold maxLen at b4
  repeat (first | refine cg_seq ?_ | refine cg_region ?_ | refine rg_nil ?_ | refine eg_then ?_ | refine qsp ?_ | refine qsn ?_ | refine qsa ?_ | refine qss ?_ | refine qsi ?_ | refine qsz ?_ | refine qsl ?_ | refine qsg ?_ | refine qsf ?_ | refine qsd ?_ | refine qse ?_ | refine qsx ?_ | refine qso ?_ | refine cg_cond_true rfl ?_ | refine cg_cond_false rfl ?_ | refine cg_skip ?_ | refine cg_block ?_ | refine eg_in_normal ?_ | refine cg_ret ?_ | refine eg_then_ret ?_ | refine eg_in_ret ?_ | refine cg_exit ?_ | refine eg_then_exit ?_ | refine eg_in_exit ?_ | refine eg_in_other rfl ?_)
  refine cg_loop (fun (i : Nat) e k' => Le k k' ∧ i ≤ l.length ∧ i ≤ own.length ∧ e = [(0, .is (.slice a l.length c)), (1, .is (.slice b own.length d)), (5, .is (.int .i64 (mvTo l own i : Nat))), (10, .is (.slice a l.length c)), (11, .is (.int .i64 (l.length : Int))), (12, .is (.int .i64 (i : Int)))])
    (fun i => l.length - i) 0 ⟨Le.refl _, Nat.zero_le _, Nat.zero_le _, rfl⟩ ⟨rfl, rfl, rfl, rfl, rfl, rfl, trivial⟩ ?_
  rintro i e k2 ⟨hle2, hi, hio, rfl⟩
  repeat (first | refine cg_seq ?_ | refine cg_region ?_ | refine rg_nil ?_ | refine eg_then ?_ | refine qsp ?_ | refine qsn ?_ | refine qsa ?_ | refine qss ?_ | refine qsi ?_ | refine qsz ?_ | refine qsl ?_ | refine qsg ?_ | refine qsf ?_ | refine qsd ?_ | refine qse ?_ | refine qsx ?_ | refine qso ?_ | refine cg_cond_true rfl ?_ | refine cg_cond_false rfl ?_ | refine cg_skip ?_ | refine cg_block ?_ | refine eg_in_normal ?_ | refine cg_ret ?_ | refine eg_then_ret ?_ | refine eg_in_ret ?_ | refine cg_exit ?_ | refine eg_then_exit ?_ | refine eg_in_exit ?_ | refine eg_in_other rfl ?_)
  refine cg_cond rfl (fun h => ?_) (fun h => ?_)
  · have hil : i < l.length := by simpa using h
    obtain ⟨mi, hmi⟩ : ∃ mi, l[i]? = some mi := ⟨_, List.getElem?_eq_getElem hil⟩
    obtain ⟨bx, ox, cx, rfl, ⟨sa, sc, oa, oc, rfl, _, hown, _⟩, hcx⟩ := (hl.le hle2).el i mi hmi
    repeat (first | refine cg_seq ?_ | refine cg_region ?_ | refine rg_nil ?_ | refine eg_then ?_ | refine qsp ?_ | refine qsn ?_ | refine qsa ?_ | refine qss ?_ | refine qsi ?_ | refine qsz ?_ | refine qsl ?_ | refine qsg ?_ | refine qsf ?_ | refine qsd ?_ | refine qse ?_ | refine qsx ?_ | refine qso ?_ | refine cg_cond_true rfl ?_ | refine cg_cond_false rfl ?_ | refine cg_skip ?_ | refine cg_block ?_ | refine eg_in_normal ?_ | refine cg_ret ?_ | refine eg_then_ret ?_ | refine eg_in_ret ?_ | refine cg_exit ?_ | refine eg_then_exit ?_ | refine eg_in_exit ?_ | refine eg_in_other rfl ?_)
    refine rb rfl rfl rfl rfl (a_alloc rfl) ?_; intro b5 k5 hb5 hN5 hle5 hk5
    repeat (first | refine cg_seq ?_ | refine cg_region ?_ | refine rg_nil ?_ | refine eg_then ?_ | refine qsp ?_ | refine qsn ?_ | refine qsa ?_ | refine qss ?_ | refine qsi ?_ | refine qsz ?_ | refine qsl ?_ | refine qsg ?_ | refine qsf ?_ | refine qsd ?_ | refine qse ?_ | refine qsx ?_ | refine qso ?_ | refine cg_cond_true rfl ?_ | refine cg_cond_false rfl ?_ | refine cg_skip ?_ | refine cg_block ?_ | refine eg_in_normal ?_ | refine cg_ret ?_ | refine eg_then_ret ?_ | refine eg_in_ret ?_ | refine cg_exit ?_ | refine eg_then_exit ?_ | refine eg_in_exit ?_ | refine eg_in_other rfl ?_)
    refine rw1 rfl rfl rfl rfl rfl rfl rfl hk5 rfl (.inl hN5) ?_ ?_; (simp [Tp.vs, memVs, Value.oneCell']); intro k6 ht6 hk6
    have hle6 : Le k2 k6 := ht6 k2 hle5 hb5
    have c5 := (cells_at (vs := memVs mi sa sc oa oc) hk6 rfl).one (i := 3) rfl
    repeat (first | refine cg_seq ?_ | refine cg_region ?_ | refine rg_nil ?_ | refine eg_then ?_ | refine qsp ?_ | refine qsn ?_ | refine qsa ?_ | refine qss ?_ | refine qsi ?_ | refine qsz ?_ | refine qsl ?_ | refine qsg ?_ | refine qsf ?_ | refine qsd ?_ | refine qse ?_ | refine qsx ?_ | refine qso ?_ | refine cg_cond_true rfl ?_ | refine cg_cond_false rfl ?_ | refine cg_skip ?_ | refine cg_block ?_ | refine eg_in_normal ?_ | refine cg_ret ?_ | refine eg_then_ret ?_ | refine eg_in_ret ?_ | refine cg_exit ?_ | refine eg_then_exit ?_ | refine eg_in_exit ?_ | refine eg_in_other rfl ?_)
    refine cg_cond rfl (fun h0 => ?_) (fun h0 => ?_)
    · have : own.length ≤ i := by simpa using h0
      repeat (first | refine cg_seq ?_ | refine cg_region ?_ | refine rg_nil ?_ | refine eg_then ?_ | refine qsp ?_ | refine qsn ?_ | refine qsa ?_ | refine qss ?_ | refine qsi ?_ | refine qsz ?_ | refine qsl ?_ | refine qsg ?_ | refine qsf ?_ | refine qsd ?_ | refine qse ?_ | refine qsx ?_ | refine qso ?_ | refine cg_cond_true rfl ?_ | refine cg_cond_false rfl ?_ | refine cg_skip ?_ | refine cg_block ?_ | refine eg_in_normal ?_ | refine cg_ret ?_ | refine eg_then_ret ?_ | refine eg_in_ret ?_ | refine cg_exit ?_ | refine eg_then_exit ?_ | refine eg_in_exit ?_ | refine eg_in_other rfl ?_)
      refine eg_return rfl rfl ?_
      rw [movesM, show min own.length l.length = i by omega]
    · have hlt : i < own.length := by simpa using h0
      obtain ⟨os, hos⟩ : ∃ os, own[i]? = some os := ⟨_, List.getElem?_eq_getElem hlt⟩
      obtain ⟨by', oy, cy, rfl, ⟨ax, acx, rfl, hsx⟩, hcy⟩ := (ho.le (hle2.trans hle6)).el i os hos
      have hgd : own.getD i [] = os := by rw [List.getD_eq_getElem?_getD, hos]; rfl
      have b7 := hsx.cap; have b9 := hsx.max; unfold maxLen at b9
      have hb1 := mvTo_le l own i
      have hb2 : lenTo own i + os.length ≤ 1000000 := by
        have := lenTo_mono own (i := i + 1) (j := min own.length l.length) (by omega)
        simp only [lenTo, hgd] at this
        omega
      have hmo : ∀ tp, mvB l i tp = (!decide (tp ∈ mi.own) && othB l i tp) := fun tp => by
        have e := (List.getElem?_eq_some_iff.1 hmi).2
        rw [mv_oth hil, e]
      repeat (first | refine cg_seq ?_ | refine cg_region ?_ | refine rg_nil ?_ | refine eg_then ?_ | refine qsp ?_ | refine qsn ?_ | refine qsa ?_ | refine qss ?_ | refine qsi ?_ | refine qsz ?_ | refine qsl ?_ | refine qsg ?_ | refine qsf ?_ | refine qsd ?_ | refine qse ?_ | refine qsx ?_ | refine qso ?_ | refine cg_cond_true rfl ?_ | refine cg_cond_false rfl ?_ | refine cg_skip ?_ | refine cg_block ?_ | refine eg_in_normal ?_ | refine cg_ret ?_ | refine eg_then_ret ?_ | refine eg_in_ret ?_ | refine cg_exit ?_ | refine eg_then_exit ?_ | refine eg_in_exit ?_ | refine eg_in_other rfl ?_)
      refine cg_loop (fun (p : Nat) e k' => Le k6 k' ∧ p ≤ os.length ∧ e = [(0, .is (.slice (some ⟨bx, ox, none⟩) l.length c)), (1, .is (.slice (some ⟨by', oy, none⟩) own.length d)), (5, .is (.int .i64 ((mvTo l own i + (os.take p).countP (mvB l i) : Nat) : Int))), (6, .is (.int .i64 (i : Int))), (7, .is (.pointer (some ⟨b5, 0, none⟩))), (10, .is (.slice (some ⟨bx, ox, none⟩) l.length c)), (11, .is (.int .i64 (l.length : Int))), (12, .is (.int .i64 (i : Int))), (24, .is (.slice ax os.length acx)), (25, .is (.int .i64 (os.length : Int))), (26, .is (.int .i64 (p : Int)))])
        (fun p => os.length - p) 0 ⟨Le.refl _, Nat.zero_le _, rfl⟩ ⟨rfl, rfl, rfl, rfl, rfl, rfl, rfl, rfl, rfl, rfl, rfl, trivial⟩ ?_
      rintro p e k3 ⟨hle3, hp, rfl⟩
      repeat (first | refine cg_seq ?_ | refine cg_region ?_ | refine rg_nil ?_ | refine eg_then ?_ | refine qsp ?_ | refine qsn ?_ | refine qsa ?_ | refine qss ?_ | refine qsi ?_ | refine qsz ?_ | refine qsl ?_ | refine qsg ?_ | refine qsf ?_ | refine qsd ?_ | refine qse ?_ | refine qsx ?_ | refine qso ?_ | refine cg_cond_true rfl ?_ | refine cg_cond_false rfl ?_ | refine cg_skip ?_ | refine cg_block ?_ | refine eg_in_normal ?_ | refine cg_ret ?_ | refine eg_then_ret ?_ | refine eg_in_ret ?_ | refine cg_exit ?_ | refine eg_then_exit ?_ | refine eg_in_exit ?_ | refine eg_in_other rfl ?_)
      refine cg_cond rfl (fun h1 => ?_) (fun h1 => ?_)
      · have hpt : p < os.length := by simpa using h1
        obtain ⟨bz, oz, cz, rfl, rfl, hcz⟩ := (hsx.le hle3).el p os[p] (List.getElem?_eq_getElem hpt)
        have hcs := countP_take_succ (f := mvB l i) hpt
        have hcl : (os.take p).countP (mvB l i) ≤ p := Nat.le_trans List.countP_le_length (by rw [List.length_take]; omega)
        generalize htp : os[p] = tp at hcs hcz
        rw [hmo] at hcs
        repeat (first | refine cg_seq ?_ | refine cg_region ?_ | refine rg_nil ?_ | refine eg_then ?_ | refine qsp ?_ | refine qsn ?_ | refine qsa ?_ | refine qss ?_ | refine qsi ?_ | refine qsz ?_ | refine qsl ?_ | refine qsg ?_ | refine qsf ?_ | refine qsd ?_ | refine qse ?_ | refine qsx ?_ | refine qso ?_ | refine cg_cond_true rfl ?_ | refine cg_cond_false rfl ?_ | refine cg_skip ?_ | refine cg_block ?_ | refine eg_in_normal ?_ | refine cg_ret ?_ | refine eg_then_ret ?_ | refine eg_in_ret ?_ | refine cg_exit ?_ | refine eg_then_exit ?_ | refine eg_in_exit ?_ | refine eg_in_other rfl ?_)
        refine rb rfl rfl rfl rfl (a_alloc rfl) ?_; intro b8 k8 hb8 hN8 hle8 hk8
        refine rw1 rfl rfl rfl rfl rfl rfl rfl hk8 rfl (.inl hN8) ?_ ?_; (simp [Tp.vs, memVs, Value.oneCell']); intro k9 ht9 hk9
        have hle9 := ht9 k3 hle8 hb8
        have c8 := cells_at (vs := tp.vs) hk9 rfl
        have c5' := c5.le (hle3.trans hle9)
        have hhas := has_ct (hown.le (hle6.trans (hle3.trans hle9))) tp
        have hoth := others_ct (hl.le (hle2.trans (hle6.trans (hle3.trans hle9)))) i tp
        by_cases hm : tp ∈ mi.own
        · rw [decide_eq_true hm] at hhas
          repeat (first | refine cg_seq ?_ | refine cg_region ?_ | refine rg_nil ?_ | refine eg_then ?_ | refine qsp ?_ | refine qsn ?_ | refine qsa ?_ | refine qss ?_ | refine qsi ?_ | refine qsz ?_ | refine qsl ?_ | refine qsg ?_ | refine qsf ?_ | refine qsd ?_ | refine qse ?_ | refine qsx ?_ | refine qso ?_ | refine cg_cond_true rfl ?_ | refine cg_cond_false rfl ?_ | refine cg_skip ?_ | refine cg_block ?_ | refine eg_in_normal ?_ | refine cg_ret ?_ | refine eg_then_ret ?_ | refine eg_in_ret ?_ | refine cg_exit ?_ | refine eg_then_exit ?_ | refine eg_in_exit ?_ | refine eg_in_other rfl ?_)
          refine rs rfl rfl (loc_call_is rfl rfl rfl rfl (hhas)) ?_
          repeat (first | refine cg_seq ?_ | refine cg_region ?_ | refine rg_nil ?_ | refine eg_then ?_ | refine qsp ?_ | refine qsn ?_ | refine qsa ?_ | refine qss ?_ | refine qsi ?_ | refine qsz ?_ | refine qsl ?_ | refine qsg ?_ | refine qsf ?_ | refine qsd ?_ | refine qse ?_ | refine qsx ?_ | refine qso ?_ | refine cg_cond_true rfl ?_ | refine cg_cond_false rfl ?_ | refine cg_skip ?_ | refine cg_block ?_ | refine eg_in_normal ?_ | refine cg_ret ?_ | refine eg_then_ret ?_ | refine eg_in_ret ?_ | refine cg_exit ?_ | refine eg_then_exit ?_ | refine eg_in_exit ?_ | refine eg_in_other rfl ?_)
          refine eg_again (p + 1) _ ⟨hle3.trans hle9, hpt, rfl⟩ (by omega) ⟨rfl, rfl, ?_, rfl, rfl, rfl, rfl, rfl, rfl, rfl, rfl, trivial⟩
          rw [hcs, decide_eq_true hm]
          rfl
        · rw [decide_eq_false hm] at hhas
          cases ho2 : othB l i tp with
          | true =>
            rw [ho2] at hoth
            repeat (first | refine cg_seq ?_ | refine cg_region ?_ | refine rg_nil ?_ | refine eg_then ?_ | refine qsp ?_ | refine qsn ?_ | refine qsa ?_ | refine qss ?_ | refine qsi ?_ | refine qsz ?_ | refine qsl ?_ | refine qsg ?_ | refine qsf ?_ | refine qsd ?_ | refine qse ?_ | refine qsx ?_ | refine qso ?_ | refine cg_cond_true rfl ?_ | refine cg_cond_false rfl ?_ | refine cg_skip ?_ | refine cg_block ?_ | refine eg_in_normal ?_ | refine cg_ret ?_ | refine eg_then_ret ?_ | refine eg_in_ret ?_ | refine cg_exit ?_ | refine eg_then_exit ?_ | refine eg_in_exit ?_ | refine eg_in_other rfl ?_)
            refine rs rfl rfl (loc_call_is rfl rfl rfl rfl (hhas)) ?_
            repeat (first | refine cg_seq ?_ | refine cg_region ?_ | refine rg_nil ?_ | refine eg_then ?_ | refine qsp ?_ | refine qsn ?_ | refine qsa ?_ | refine qss ?_ | refine qsi ?_ | refine qsz ?_ | refine qsl ?_ | refine qsg ?_ | refine qsf ?_ | refine qsd ?_ | refine qse ?_ | refine qsx ?_ | refine qso ?_ | refine cg_cond_true rfl ?_ | refine cg_cond_false rfl ?_ | refine cg_skip ?_ | refine cg_block ?_ | refine eg_in_normal ?_ | refine cg_ret ?_ | refine eg_then_ret ?_ | refine eg_in_ret ?_ | refine cg_exit ?_ | refine eg_then_exit ?_ | refine eg_in_exit ?_ | refine eg_in_other rfl ?_)
            refine rs rfl rfl (loc_call_is rfl rfl rfl rfl (hoth)) ?_
            repeat (first | refine cg_seq ?_ | refine cg_region ?_ | refine rg_nil ?_ | refine eg_then ?_ | refine qsp ?_ | refine qsn ?_ | refine qsa ?_ | refine qss ?_ | refine qsi ?_ | refine qsz ?_ | refine qsl ?_ | refine qsg ?_ | refine qsf ?_ | refine qsd ?_ | refine qse ?_ | refine qsx ?_ | refine qso ?_ | refine cg_cond_true rfl ?_ | refine cg_cond_false rfl ?_ | refine cg_skip ?_ | refine cg_block ?_ | refine eg_in_normal ?_ | refine cg_ret ?_ | refine eg_then_ret ?_ | refine eg_in_ret ?_ | refine cg_exit ?_ | refine eg_then_exit ?_ | refine eg_in_exit ?_ | refine eg_in_other rfl ?_)
            refine eg_again (p + 1) _ ⟨hle3.trans hle9, hpt, rfl⟩ (by omega) ⟨rfl, rfl, ?_, rfl, rfl, rfl, rfl, rfl, rfl, rfl, rfl, trivial⟩
            rw [hcs, decide_eq_false hm, ho2]
            rfl
          | false =>
            rw [ho2] at hoth
            repeat (first | refine cg_seq ?_ | refine cg_region ?_ | refine rg_nil ?_ | refine eg_then ?_ | refine qsp ?_ | refine qsn ?_ | refine qsa ?_ | refine qss ?_ | refine qsi ?_ | refine qsz ?_ | refine qsl ?_ | refine qsg ?_ | refine qsf ?_ | refine qsd ?_ | refine qse ?_ | refine qsx ?_ | refine qso ?_ | refine cg_cond_true rfl ?_ | refine cg_cond_false rfl ?_ | refine cg_skip ?_ | refine cg_block ?_ | refine eg_in_normal ?_ | refine cg_ret ?_ | refine eg_then_ret ?_ | refine eg_in_ret ?_ | refine cg_exit ?_ | refine eg_then_exit ?_ | refine eg_in_exit ?_ | refine eg_in_other rfl ?_)
            refine rs rfl rfl (loc_call_is rfl rfl rfl rfl (hhas)) ?_
            repeat (first | refine cg_seq ?_ | refine cg_region ?_ | refine rg_nil ?_ | refine eg_then ?_ | refine qsp ?_ | refine qsn ?_ | refine qsa ?_ | refine qss ?_ | refine qsi ?_ | refine qsz ?_ | refine qsl ?_ | refine qsg ?_ | refine qsf ?_ | refine qsd ?_ | refine qse ?_ | refine qsx ?_ | refine qso ?_ | refine cg_cond_true rfl ?_ | refine cg_cond_false rfl ?_ | refine cg_skip ?_ | refine cg_block ?_ | refine eg_in_normal ?_ | refine cg_ret ?_ | refine eg_then_ret ?_ | refine eg_in_ret ?_ | refine cg_exit ?_ | refine eg_then_exit ?_ | refine eg_in_exit ?_ | refine eg_in_other rfl ?_)
            refine rs rfl rfl (loc_call_is rfl rfl rfl rfl (hoth)) ?_
            repeat (first | refine cg_seq ?_ | refine cg_region ?_ | refine rg_nil ?_ | refine eg_then ?_ | refine qsp ?_ | refine qsn ?_ | refine qsa ?_ | refine qss ?_ | refine qsi ?_ | refine qsz ?_ | refine qsl ?_ | refine qsg ?_ | refine qsf ?_ | refine qsd ?_ | refine qse ?_ | refine qsx ?_ | refine qso ?_ | refine cg_cond_true rfl ?_ | refine cg_cond_false rfl ?_ | refine cg_skip ?_ | refine cg_block ?_ | refine eg_in_normal ?_ | refine cg_ret ?_ | refine eg_then_ret ?_ | refine eg_in_ret ?_ | refine cg_exit ?_ | refine eg_then_exit ?_ | refine eg_in_exit ?_ | refine eg_in_other rfl ?_)
            refine eg_again (p + 1) _ ⟨hle3.trans hle9, hpt, rfl⟩ (by omega) ⟨rfl, rfl, ?_, rfl, rfl, rfl, rfl, rfl, rfl, rfl, rfl, trivial⟩
            rw [hcs, decide_eq_false hm, ho2]
            rfl
      · have hpl : p = os.length := by simp at h1; omega
        repeat (first | refine cg_seq ?_ | refine cg_region ?_ | refine rg_nil ?_ | refine eg_then ?_ | refine qsp ?_ | refine qsn ?_ | refine qsa ?_ | refine qss ?_ | refine qsi ?_ | refine qsz ?_ | refine qsl ?_ | refine qsg ?_ | refine qsf ?_ | refine qsd ?_ | refine qse ?_ | refine qsx ?_ | refine qso ?_ | refine cg_cond_true rfl ?_ | refine cg_cond_false rfl ?_ | refine cg_skip ?_ | refine cg_block ?_ | refine eg_in_normal ?_ | refine cg_ret ?_ | refine eg_then_ret ?_ | refine eg_in_ret ?_ | refine cg_exit ?_ | refine eg_then_exit ?_ | refine eg_in_exit ?_ | refine eg_in_other rfl ?_)
        refine eg_again (i + 1) _ ⟨hle2.trans (hle6.trans hle3), hil, hlt, rfl⟩ (by omega) ⟨rfl, rfl, ?_, rfl, rfl, rfl, trivial⟩
        simp only [mvTo, hgd]
        rw [hpl, List.take_length]
        rfl
  · have hiq : i = l.length := by simp at h; omega
    subst hiq
    repeat (first | refine cg_seq ?_ | refine cg_region ?_ | refine rg_nil ?_ | refine eg_then ?_ | refine qsp ?_ | refine qsn ?_ | refine qsa ?_ | refine qss ?_ | refine qsi ?_ | refine qsz ?_ | refine qsl ?_ | refine qsg ?_ | refine qsf ?_ | refine qsd ?_ | refine qse ?_ | refine qsx ?_ | refine qso ?_ | refine cg_cond_true rfl ?_ | refine cg_cond_false rfl ?_ | refine cg_skip ?_ | refine cg_block ?_ | refine eg_in_normal ?_ | refine cg_ret ?_ | refine eg_then_ret ?_ | refine eg_in_ret ?_ | refine cg_exit ?_ | refine eg_then_exit ?_ | refine eg_in_exit ?_ | refine eg_in_other rfl ?_)
    refine eg_return rfl rfl ?_
    rw [movesM, show min own.length l.length = l.length by omega]

theorem lenTo_bd' {own : List (List Tp)} {B : Nat} (h : ∀ r ∈ own, r.length ≤ B) : ∀ k, lenTo own k ≤ k * B
  | 0 => by simp [lenTo]
  | k + 1 => by
    have ih := lenTo_bd' h k
    simp only [lenTo]
    rw [Nat.succ_mul]
    have : (own.getD k []).length ≤ B := by
      rw [List.getD_eq_getElem?_getD]
      cases hk : own[k]? with
      | none => simp
      | some r => exact h r (List.mem_of_getElem? hk)
    omega
set_option maxHeartbeats 1000000 in
theorem fewShare_ct {k : PH} {a : Option Addr} {c : Nat} {own : List (List Tp)} (ho : Sl (tSl tTp) k a c own) (hB : ∀ r ∈ own, r.length ≤ 140737488355328) :
    CT Try.prog 19 #[.slice a own.length c] k (fun _ v => v = .bool (decide (own.length ≤ 20) && decide (lenTo own own.length ≤ 60))) := by
  refine ct_of_body (l := [_]) Try.func19 rfl Try.ntmps19 (by simp) (fun _ _ _ _ h => h) fun F hF0 hFm => ?_
  have b1 := ho.cap; have b2 := ho.max; unfold maxLen at b2
  have hbd := lenTo_bd' hB
  repeat (first | refine cg_seq ?_ | refine cg_region ?_ | refine rg_nil ?_ | refine eg_then ?_ | refine qsp ?_ | refine qsn ?_ | refine qsa ?_ | refine qss ?_ | refine qsi ?_ | refine qsz ?_ | refine qsl ?_ | refine qsg ?_ | refine qsf ?_ | refine qsd ?_ | refine qse ?_ | refine qsx ?_ | refine qso ?_ | refine cg_cond_true rfl ?_ | refine cg_cond_false rfl ?_ | refine cg_skip ?_ | refine cg_block ?_ | refine eg_in_normal ?_ | refine cg_ret ?_ | refine eg_then_ret ?_ | refine eg_in_ret ?_ | refine cg_exit ?_ | refine eg_then_exit ?_ | refine eg_in_exit ?_ | refine eg_in_other rfl ?_)
  refine cg_loop (fun (i : Nat) e k' => ∃ n : Int, k' = k ∧ i ≤ own.length ∧ (own.length ≤ 20 → n = (lenTo own i : Nat)) ∧ e = [(0, .is (.slice a own.length c)), (3, .is (.int .i64 n)), (6, .is (.slice a own.length c)), (7, .is (.int .i64 (own.length : Int))), (8, .is (.int .i64 (i : Int)))])
    (fun i => own.length - i) 0 ⟨0, rfl, Nat.zero_le _, fun _ => rfl, rfl⟩ ⟨rfl, rfl, rfl, rfl, rfl, trivial⟩ ?_
  rintro i e k1 ⟨n, rfl, hi, hn, rfl⟩
  repeat (first | refine cg_seq ?_ | refine cg_region ?_ | refine rg_nil ?_ | refine eg_then ?_ | refine qsp ?_ | refine qsn ?_ | refine qsa ?_ | refine qss ?_ | refine qsi ?_ | refine qsz ?_ | refine qsl ?_ | refine qsg ?_ | refine qsf ?_ | refine qsd ?_ | refine qse ?_ | refine qsx ?_ | refine qso ?_ | refine cg_cond_true rfl ?_ | refine cg_cond_false rfl ?_ | refine cg_skip ?_ | refine cg_block ?_ | refine eg_in_normal ?_ | refine cg_ret ?_ | refine eg_then_ret ?_ | refine eg_in_ret ?_ | refine cg_exit ?_ | refine eg_then_exit ?_ | refine eg_in_exit ?_ | refine eg_in_other rfl ?_)
  refine cg_cond rfl (fun h => ?_) (fun h => ?_)
  · have hlt : i < own.length := by simpa using h
    obtain ⟨os, hos⟩ : ∃ os, own[i]? = some os := ⟨_, List.getElem?_eq_getElem hlt⟩
    obtain ⟨bx, ox, cx, rfl, ⟨ax, acx, rfl, hsx⟩, hcx⟩ := ho.el i os hos
    have hgd : own.getD i [] = os := by rw [List.getD_eq_getElem?_getD, hos]; rfl
    repeat (first | refine cg_seq ?_ | refine cg_region ?_ | refine rg_nil ?_ | refine eg_then ?_ | refine qsp ?_ | refine qsn ?_ | refine qsa ?_ | refine qss ?_ | refine qsi ?_ | refine qsz ?_ | refine qsl ?_ | refine qsg ?_ | refine qsf ?_ | refine qsd ?_ | refine qse ?_ | refine qsx ?_ | refine qso ?_ | refine cg_cond_true rfl ?_ | refine cg_cond_false rfl ?_ | refine cg_skip ?_ | refine cg_block ?_ | refine eg_in_normal ?_ | refine cg_ret ?_ | refine eg_then_ret ?_ | refine eg_in_ret ?_ | refine cg_exit ?_ | refine eg_then_exit ?_ | refine eg_in_exit ?_ | refine eg_in_other rfl ?_)
    refine rs rfl rfl (loc_det rfl (d_addw rfl rfl rfl)) ?_
    repeat (first | refine cg_seq ?_ | refine cg_region ?_ | refine rg_nil ?_ | refine eg_then ?_ | refine qsp ?_ | refine qsn ?_ | refine qsa ?_ | refine qss ?_ | refine qsi ?_ | refine qsz ?_ | refine qsl ?_ | refine qsg ?_ | refine qsf ?_ | refine qsd ?_ | refine qse ?_ | refine qsx ?_ | refine qso ?_ | refine cg_cond_true rfl ?_ | refine cg_cond_false rfl ?_ | refine cg_skip ?_ | refine cg_block ?_ | refine eg_in_normal ?_ | refine cg_ret ?_ | refine eg_then_ret ?_ | refine eg_in_ret ?_ | refine cg_exit ?_ | refine eg_then_exit ?_ | refine eg_in_exit ?_ | refine eg_in_other rfl ?_)
    refine eg_again (i + 1) _ ⟨_, rfl, hlt, fun h20 => ?_, rfl⟩ (by omega) ⟨rfl, rfl, rfl, rfl, rfl, trivial⟩
    have h1 := hbd (i + 1)
    have h2 : (i + 1) * 140737488355328 ≤ 20 * 140737488355328 := Nat.mul_le_mul_right _ (by omega)
    simp only [lenTo, hgd] at h1 ⊢
    rw [hn h20, IntKind.wrap_i64]
    omega
  · have hil : i = own.length := by simp at h; omega
    subst hil
    repeat (first | refine cg_seq ?_ | refine cg_region ?_ | refine rg_nil ?_ | refine eg_then ?_ | refine qsp ?_ | refine qsn ?_ | refine qsa ?_ | refine qss ?_ | refine qsi ?_ | refine qsz ?_ | refine qsl ?_ | refine qsg ?_ | refine qsf ?_ | refine qsd ?_ | refine qse ?_ | refine qsx ?_ | refine qso ?_ | refine cg_cond_true rfl ?_ | refine cg_cond_false rfl ?_ | refine cg_skip ?_ | refine cg_block ?_ | refine eg_in_normal ?_ | refine cg_ret ?_ | refine eg_then_ret ?_ | refine eg_in_ret ?_ | refine cg_exit ?_ | refine eg_then_exit ?_ | refine eg_in_exit ?_ | refine eg_in_other rfl ?_)
    by_cases h20 : own.length ≤ 20
    · have q1 : decide ((own.length : Int) ≤ 20) = true := by simp; omega
      have q2 : decide (n ≤ 60) = decide (lenTo own own.length ≤ 60) := by
        rw [hn h20, Bool.eq_iff_iff]
        simp
        omega
      rw [q1]
      repeat (first | refine cg_seq ?_ | refine cg_region ?_ | refine rg_nil ?_ | refine eg_then ?_ | refine qsp ?_ | refine qsn ?_ | refine qsa ?_ | refine qss ?_ | refine qsi ?_ | refine qsz ?_ | refine qsl ?_ | refine qsg ?_ | refine qsf ?_ | refine qsd ?_ | refine qse ?_ | refine qsx ?_ | refine qso ?_ | refine cg_cond_true rfl ?_ | refine cg_cond_false rfl ?_ | refine cg_skip ?_ | refine cg_block ?_ | refine eg_in_normal ?_ | refine cg_ret ?_ | refine eg_then_ret ?_ | refine eg_in_ret ?_ | refine cg_exit ?_ | refine eg_then_exit ?_ | refine eg_in_exit ?_ | refine eg_in_other rfl ?_)
      refine eg_return rfl rfl ?_
      rw [q2, decide_eq_true h20]
      rfl
    · have q1 : decide ((own.length : Int) ≤ 20) = false := by simp; omega
      rw [q1]
      repeat (first | refine cg_seq ?_ | refine cg_region ?_ | refine rg_nil ?_ | refine eg_then ?_ | refine qsp ?_ | refine qsn ?_ | refine qsa ?_ | refine qss ?_ | refine qsi ?_ | refine qsz ?_ | refine qsl ?_ | refine qsg ?_ | refine qsf ?_ | refine qsd ?_ | refine qse ?_ | refine qsx ?_ | refine qso ?_ | refine cg_cond_true rfl ?_ | refine cg_cond_false rfl ?_ | refine cg_skip ?_ | refine cg_block ?_ | refine eg_in_normal ?_ | refine cg_ret ?_ | refine eg_then_ret ?_ | refine eg_in_ret ?_ | refine cg_exit ?_ | refine eg_then_exit ?_ | refine eg_in_exit ?_ | refine eg_in_other rfl ?_)
      refine eg_return rfl rfl ?_
      rw [decide_eq_false h20]
      rfl
end Go.Wm

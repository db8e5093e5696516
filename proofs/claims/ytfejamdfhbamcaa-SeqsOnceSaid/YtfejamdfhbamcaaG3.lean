/-
  Producers, the program's: whether a batch follows, is there already, or may not be. Conditions: that what is handed in reads as data.
-/
import Derived.Test.YtfejamdfhbamcaaG2
set_option linter.all false
namespace Go.Wm
open Go.RowKit Go.Proofs
theorem find_at {α : Type} {f : α → Bool} : ∀ {l : List α} {j : Nat} (hj : j < l.length), f l[j] = true → (∀ n, (hn : n < l.length) → n < j → f l[n] = false) → l.find? f = some l[j]
  | [], j, hj, _, _ => absurd hj (by simp)
  | x :: l, 0, _, h, _ => by rw [List.find?_cons_of_pos (p := f) (a := x) h]; rfl
  | x :: l, j + 1, hj, h, hn => by
    have h0 := hn 0 (by simp) (by omega)
    rw [List.find?_cons_of_neg (by simpa using h0)]
    exact find_at (l := l) (j := j) (by simpa using hj) (by simpa using h) fun n h1 h2 => by have := hn (n + 1) (by simpa using h1) (by omega); simpa using this
theorem find_no {α : Type} {f : α → Bool} {l : List α} (hn : ∀ n, (hn : n < l.length) → f l[n] = false) : l.find? f = none := by
  rw [List.find?_eq_none]
  intro x hx
  obtain ⟨n, h, rfl⟩ := List.getElem_of_mem hx
  simp [hn n h]
theorem nextD_at {l : List Did} : nextD l = if h : 0 < l.length then l[l.length - 1].last + 1 else 0 := by
  unfold nextD
  rw [List.getLast?_eq_getElem?]
  split
  · rename_i d hd
    obtain ⟨h1, h2⟩ := List.getElem?_eq_some_iff.1 hd
    rw [dif_pos (by omega), h2]
  · rename_i hd
    rw [dif_neg (fun hc => by rw [List.getElem?_eq_getElem (by omega)] at hd; cases hd)]
attribute [local irreducible] RG CG EG WA Loc Det Alc CT Exit.then Exit.inBlock Code.wp bodyPost
def lookVal (q : Int × Bool × Int) : Value := .tuple #[.int .i64 q.1, .bool q.2.1, .int .i64 q.2.2]
set_option maxHeartbeats 4000000 in
theorem look_ct {k : PH} {a : Option Addr} {c : Nat} {l : List ProdT} {b : Batch} {ab : Option Addr} {cb : Nat} (hl : Sl tProdT k a c l) (hr : Sl tRec k ab cb b.recs) (hok : b.ok) : CT Try.prog 20 #[.slice a l.length c, .agg (b.cs ab cb).toArray] k (fun _ v => v = lookVal (lookR l b)) := by
  refine ct_of_body (l := [_, _]) Try.func20 rfl Try.ntmps20 (by simp) (fun _ _ _ _ h => h) fun F hF0 hFm => ?_
  have b1 := hl.cap; have b2 := hl.max; unfold maxLen at b2
  repeat (first | refine cg_seq ?_ | refine cg_region ?_)
  refine rb rfl rfl rfl rfl (a_box rfl rfl) ?_; intro b3 k3 hb3 hN3 hle3 hk3
  have hl3 := hl.le hle3
  have hr3 := hr.le hle3
  have cb3 := cells_at (vs := b.cs ab cb) hk3 rfl
  repeat (first | refine cg_seq ?_ | refine cg_region ?_ | refine rg_nil ?_ | refine eg_then ?_ | refine qsp ?_)
  refine rs rfl rfl (loc_call_is rfl rfl rfl rfl (seqsCheck_ct hl3)) ?_
  repeat (first | refine cg_seq ?_ | refine cg_region ?_ | refine rg_nil ?_ | refine eg_then ?_ | refine qsp ?_)
  cases q1 : (chkP l != 0)
  case true =>
    repeat (first | refine cg_seq ?_ | refine cg_region ?_ | refine rg_nil ?_ | refine eg_then ?_ | refine qsp ?_ | refine cg_cond_true rfl ?_ | refine cg_ret ?_ | refine eg_then_ret ?_)
    refine eg_return3 rfl rfl rfl rfl ?_
    unfold lookR; rw [if_pos (by simpa using q1)]; rfl
  have h1 : chkP l = 0 := by simpa using q1
  obtain ⟨hlen, hps⟩ := chk_zero.1 h1
  have hlk : lookR l b = if chkB b ≠ 0 ∨ b.pid < 0 then (0, false, chkB b) else if (stateR l b).2 = true then (0, false, 110) else if b.ctl ≠ 0 then (0, false, 0) else stepLook (stateR l b).1 b := by
    conv => lhs; unfold lookR
    rw [if_neg (by simp [h1])]
  repeat (first | refine cg_seq ?_ | refine cg_region ?_ | refine eg_then ?_ | refine qsg ?_ | refine cg_cond_false rfl ?_ | refine cg_skip ?_)
  refine rs rfl rfl (loc_call_is rfl rfl rfl rfl (batchChk_ct hr3 hok)) ?_
  repeat (first | refine cg_seq ?_ | refine cg_region ?_ | refine rg_nil ?_ | refine eg_then ?_ | refine qsp ?_)
  cases q2 : (chkB b != 0)
  case true =>
    repeat (first | refine cg_seq ?_ | refine cg_region ?_ | refine rg_nil ?_ | refine eg_then ?_ | refine qsp ?_ | refine qso ?_ | refine cg_cond_true rfl ?_ | refine cg_ret ?_ | refine eg_then_ret ?_)
    refine eg_return3 rfl rfl rfl rfl ?_
    rw [hlk, if_pos (.inl (by simpa using q2))]; rfl
  have h2 : chkB b = 0 := by simpa using q2
  have hform := chkB_form h2
  obtain ⟨p0, p1, p2, p3, p4, p5, p6, p7, p8, p9⟩ := Batch.parts cb3
  repeat (first | refine rg_nil ?_ | refine eg_then ?_ | refine qsp ?_ | refine qsl ?_ | refine qsf ?_)
  cases q3 : decide (b.pid < 0)
  case true =>
    repeat (first | refine cg_seq ?_ | refine cg_region ?_ | refine rg_nil ?_ | refine eg_then ?_ | refine qsp ?_ | refine cg_cond_true rfl ?_ | refine cg_ret ?_ | refine eg_then_ret ?_)
    refine eg_return3 rfl rfl rfl rfl ?_
    rw [hlk, if_pos (.inr (of_decide_eq_true q3)), h2]; rfl
  have h3 : ¬ b.pid < 0 := of_decide_eq_false q3
  rw [if_neg (by simp [h2]; omega)] at hlk
  have hpid := form_pid hform h3
  clear p0 p1 p2 p3 p4 p5 p6 p7 p8 p9
  have cb3 := cb3
  repeat (first | refine cg_seq ?_ | refine cg_region ?_ | refine eg_then ?_ | refine qsp ?_ | refine qsg ?_ | refine cg_cond_false rfl ?_ | refine cg_skip ?_)
  refine rv rfl rfl rfl (loc_call rfl rfl rfl rfl StateV.mono (state_ct hl3 (by omega) hps (by omega) hpid.2)) ?_
  rintro k4 hle4 v4 ⟨a0, c0, rfl, hsd⟩
  have hso : (stateR l b).2 = false → _ := state_ok (b := b) hps
  obtain ⟨st, hst⟩ : ∃ st, stateR l b = st := ⟨_, rfl⟩
  rw [hst] at hlk hsd hso ⊢
  obtain ⟨p, fenced⟩ := st
  dsimp only at hlk hsd hso ⊢
  repeat (first | refine qsp ?_)
  refine rb rfl rfl rfl rfl (a_alloc rfl) ?_; intro b7 k5 hb7 hN7 hle5 hk5
  refine rw1 (vs := p.cs a0 c0) rfl rfl rfl rfl rfl rfl rfl hk5 rfl (.inl hN7) ?_ ?_
  · simp [ProdT.cs, Value.oneCell']
  intro k6 ht6 hk6
  have hle6 : Le k4 k6 := ht6 k4 hle5 hb7
  have hle36 : Le k3 k6 := hle4.trans hle6
  have cb6 := cb3.le hle36
  have hsd6 := hsd.le hle6
  obtain ⟨s0, s1, s2⟩ := ProdT.parts (cells_at (vs := p.cs a0 c0) hk6 rfl)
  repeat (first | refine cg_seq ?_ | refine cg_region ?_ | refine rg_nil ?_ | refine eg_then ?_ | refine qsp ?_ | refine cg_block ?_)
  cases fenced
  case true =>
    repeat (first | refine cg_seq ?_ | refine cg_region ?_ | refine rg_nil ?_ | refine eg_then ?_ | refine qsp ?_ | refine cg_cond_true rfl ?_ | refine cg_ret ?_ | refine eg_then_ret ?_ | refine eg_in_ret ?_)
    refine eg_return3 rfl rfl rfl rfl ?_
    rw [hlk]; rfl
  rw [if_neg (by simp)] at hlk
  obtain ⟨_, _, hdp, hd5⟩ := hso rfl
  obtain ⟨p0, p1, p2, p3, p4, p5, p6, p7, p8, p9⟩ := Batch.parts cb6
  repeat (first | refine cg_seq ?_ | refine cg_region ?_ | refine rg_nil ?_ | refine eg_then ?_ | refine qsp ?_ | refine qsl ?_ | refine qsf ?_ | refine cg_cond_false rfl ?_)
  cases q4 : (b.ctl != 0)
  case true =>
    repeat (first | refine cg_seq ?_ | refine cg_region ?_ | refine rg_nil ?_ | refine eg_then ?_ | refine qsp ?_ | refine cg_cond_true rfl ?_ | refine cg_ret ?_ | refine eg_then_ret ?_ | refine eg_in_ret ?_)
    refine eg_return3 rfl rfl rfl rfl ?_
    rw [hlk, if_pos (by simpa using q4)]; rfl
  rw [if_neg (by simpa using q4)] at hlk
  clear p0 p1 p2 p3 p4 p5 p6 p7 p8 p9
  have d1 := hsd.cap; have d2 := hsd.max; unfold maxLen at d2
  repeat (first | refine cg_seq ?_ | refine cg_region ?_ | refine rg_nil ?_ | refine eg_then ?_ | refine qsp ?_ | refine qsn ?_ | refine qsl ?_ | refine qsf ?_ | refine cg_cond_false rfl ?_ | refine cg_skip ?_ | refine cg_block ?_ | refine eg_in_normal ?_)
  refine cg_loop (fun (j : Nat) e k' => ∃ next : Int, Le k6 k' ∧ j ≤ p.did.length ∧ next = (if h : 0 < j ∧ j - 1 < p.did.length then p.did[j - 1].last + 1 else 0) ∧ (∀ n, (h : n < p.did.length) → n < j → sameD b p.did[n] = false) ∧ e = [(3, .is (.pointer (some ⟨b3, 0, none⟩))), (9, .is (.int .i64 next)), (41, .is (.slice a0 p.did.length c0)), (42, .is (.int .i64 (p.did.length : Int))), (43, .is (.int .i64 (j : Int)))])
    (fun j => p.did.length - j) 0 ⟨0, Le.refl _, Nat.zero_le _, rfl, fun n _ hn => by omega, rfl⟩ ⟨rfl, rfl, rfl, rfl, rfl, trivial⟩ ?_
  rintro j e k7 ⟨next, hle7, hj, hnx, hno, rfl⟩
  have cb7 := cb6.le hle7
  repeat (first | refine cg_seq ?_ | refine cg_region ?_ | refine rg_nil ?_ | refine eg_then ?_ | refine qsp ?_)
  refine cg_cond rfl (fun hc => ?_) (fun hc => ?_)
  · have hjlt : j < p.did.length := by simpa using hc
    obtain ⟨by', oy, cy, rfl, ⟨rfl, hdI⟩, hcy⟩ := (hsd6.le hle7).el j p.did[j] (List.getElem?_eq_getElem hjlt)
    have hdk := dids_mem hdp _ (List.getElem_mem hjlt)
    have hfa := find_at (f := sameD b) hjlt
    obtain ⟨d, hd⟩ : ∃ d, p.did[j] = d := ⟨_, rfl⟩
    rw [hd] at hcy hdI hdk hfa
    have hdl : d.last ≤ 1048576 ∧ 0 ≤ d.last := by
      unfold didOk at hdk; simp only [Bool.and_eq_true, inI_iff] at hdk; omega
    repeat (first | refine cg_seq ?_ | refine cg_region ?_ | refine eg_then ?_ | refine qsi ?_ | refine qsg ?_ | refine cg_skip ?_ | refine cg_block ?_)
    refine rb rfl rfl rfl rfl (a_alloc rfl) ?_; intro b11 k8 hb11 hN11 hle8 hk8
    refine rw1 (vs := d.vs) rfl rfl rfl rfl rfl rfl rfl hk8 rfl (.inl hN11) ?_ ?_
    · simp [Did.vs, Value.oneCell']
    intro k9 ht9 hk9
    have hle9 : Le k7 k9 := ht9 k7 hle8 hb11
    have cb9 := cb7.le hle9
    repeat (first | refine cg_seq ?_ | refine cg_region ?_ | refine rg_nil ?_ | refine eg_then ?_ | refine qsg ?_)
    refine rs rfl rfl (loc_call_is rfl rfl rfl rfl (did_ct hform)) ?_
    skip
    refine rb rfl rfl rfl rfl (a_alloc rfl) ?_; intro b12 k10 hb12 hN12 hle10 hk10
    refine rw1 (vs := (didB b).vs) rfl rfl rfl rfl rfl rfl rfl hk10 rfl (.inl hN12) ?_ ?_
    · simp [Did.vs, Value.oneCell']
    intro k11 ht11 hk11
    have hle11 : Le k9 k11 := ht11 k9 hle10 hb12
    obtain ⟨f0, f1, f2⟩ := Did.parts (cells_at (vs := d.vs) (hle11 _ _ hk9) rfl)
    obtain ⟨g0, g1, g2⟩ := Did.parts (cells_at (vs := (didB b).vs) hk11 rfl)
    have goon : sameD b d = false → ∃ next' : Int, Le k6 k11 ∧ j + 1 ≤ p.did.length ∧ next' = (if h : 0 < j + 1 ∧ j + 1 - 1 < p.did.length then p.did[j + 1 - 1].last + 1 else 0) ∧ (∀ n, (h : n < p.did.length) → n < j + 1 → sameD b p.did[n] = false) ∧ next' = d.last + 1 := fun hs => by
      refine ⟨d.last + 1, hle7.trans (hle9.trans hle11), hjlt, ?_, fun n hn hnj => ?_, rfl⟩
      · rw [dif_pos ⟨by omega, by omega⟩]; simp [hd]
      · by_cases hnj' : n < j
        · exact hno n hn hnj'
        · have : n = j := by omega
          subst this; rw [hd]; exact hs
    repeat (first | refine cg_seq ?_ | refine cg_region ?_ | refine rg_nil ?_ | refine eg_then ?_ | refine qsp ?_ | refine qsl ?_ | refine qsf ?_)
    cases q5 : ((didB b).seq == d.seq)
    · have hs : sameD b d = false := by
        unfold sameD; rw [show decide (b.seq = d.seq) = false by simpa [didB] using q5]; rfl
      obtain ⟨next', n1, n2, n3, n4, rfl⟩ := goon hs
      repeat (first | refine cg_region ?_ | refine rg_nil ?_ | refine eg_then ?_ | refine qsp ?_ | refine qsa ?_ | refine qsl ?_ | refine qsf ?_ | refine qso ?_ | refine cg_cond_false rfl ?_ | refine cg_skip ?_ | refine eg_in_normal ?_)
      exact eg_again (j + 1) _ ⟨d.last + 1, n1, n2, n3, n4, rfl⟩ (by omega) ⟨rfl, rfl, rfl, rfl, rfl, trivial⟩
    · repeat (first | refine rg_nil ?_ | refine eg_then ?_ | refine qsp ?_ | refine qsl ?_ | refine qsf ?_)
      cases q6 : ((didB b).last == d.last)
      · have hs : sameD b d = false := by
          unfold sameD; rw [show decide (b.seq + b.last - b.base = d.last) = false by simpa [didB] using q6]; simp
        obtain ⟨next', n1, n2, n3, n4, rfl⟩ := goon hs
        repeat (first | refine cg_region ?_ | refine rg_nil ?_ | refine eg_then ?_ | refine qsp ?_ | refine qsa ?_ | refine qsl ?_ | refine qsf ?_ | refine cg_cond_false rfl ?_ | refine cg_skip ?_ | refine eg_in_normal ?_)
        exact eg_again (j + 1) _ ⟨d.last + 1, n1, n2, n3, n4, rfl⟩ (by omega) ⟨rfl, rfl, rfl, rfl, rfl, trivial⟩
      · have hs : sameD b d = true := by
          unfold sameD
          rw [show decide (b.seq = d.seq) = true by simpa [didB] using q5, show decide (b.seq + b.last - b.base = d.last) = true by simpa [didB] using q6]; rfl
        repeat (first | refine cg_seq ?_ | refine cg_region ?_ | refine rg_nil ?_ | refine eg_then ?_ | refine qsp ?_ | refine qsl ?_ | refine qsf ?_ | refine cg_cond_true rfl ?_ | refine cg_ret ?_ | refine eg_then_ret ?_ | refine eg_in_ret ?_)
        refine eg_return3 rfl rfl rfl rfl ?_
        rw [hlk]; unfold stepLook; rw [hfa hs hno]; rfl
  · have hjl : j = p.did.length := by simp at hc; omega
    have hnn : next = nextD p.did := by
      rw [hnx, nextD_at]
      by_cases h0 : 0 < p.did.length
      · rw [dif_pos ⟨by omega, by omega⟩, dif_pos h0]; simp [hjl]
      · rw [dif_neg (by omega), dif_neg h0]
    have hnone := find_no (f := sameD b) (l := p.did) fun n hn => hno n hn (by omega)
    obtain ⟨p0, p1, p2, p3, p4, p5, p6, p7, p8, p9⟩ := Batch.parts cb7
    repeat (first | refine cg_seq ?_ | refine cg_region ?_ | refine rg_nil ?_ | refine eg_then ?_ | refine qsp ?_ | refine qsl ?_ | refine qsf ?_ | refine cg_exit ?_ | refine eg_then_exit ?_ | refine eg_in_exit ?_)
    cases q7 : (b.seq != next)
    · repeat (first | refine cg_seq ?_ | refine cg_region ?_ | refine rg_nil ?_ | refine eg_then ?_ | refine qsp ?_ | refine cg_cond_false rfl ?_ | refine cg_skip ?_ | refine cg_ret ?_)
      refine eg_return3 rfl rfl rfl rfl ?_
      rw [hlk]; unfold stepLook; rw [hnone]; dsimp only
      rw [if_pos (by rw [← hnn]; simpa using q7)]; rfl
    · repeat (first | refine cg_seq ?_ | refine cg_region ?_ | refine rg_nil ?_ | refine eg_then ?_ | refine qsp ?_ | refine cg_cond_true rfl ?_ | refine cg_ret ?_ | refine eg_then_ret ?_)
      refine eg_return3 rfl rfl rfl rfl ?_
      rw [hlk]; unfold stepLook; rw [hnone]; dsimp only
      rw [if_neg (by rw [← hnn]; simpa using q7)]; rfl
end Go.Wm

/-
  Whether a step has form, the program's. Conditions: that what is handed in reads as data.
-/
import Derived.Test.YtgalkgidjpbiaaaGreatA2
set_option linter.all false
namespace Go.Wm
open Go.RowKit Go.Proofs
attribute [local irreducible] RG CG EG WA Loc Det Alc CT Exit.then Exit.inBlock Code.wp bodyPost
abbrev U5 := Bool × Bool × Bool × Bool × Bool
def noU : U5 := (false, false, false, false, false)
def U5.vs (u : U5) : List Value := [.bool u.1, .bool u.2.1, .bool u.2.2.1, .bool u.2.2.2.1, .bool u.2.2.2.2]
theorem U5.parts {k : PH} {b off : Nat} {u : U5} (h : Cells k b off u.vs) : Cells k b (off + 0) [.bool u.1] ∧ Cells k b (off + 1) [.bool u.2.1] ∧ Cells k b (off + 2) [.bool u.2.2.1] ∧ Cells k b (off + 3) [.bool u.2.2.2.1] ∧ Cells k b (off + 4) [.bool u.2.2.2.2] :=
  ⟨h.win (n := 1) 0 rfl, h.win (n := 1) 1 rfl, h.win (n := 1) 2 rfl, h.win (n := 1) 3 rfl, h.win (n := 1) 4 rfl⟩
def useV (n : Int) : Value := .tuple #[.agg (U5.vs ((useK n).getD noU)).toArray, .bool (useK n).isSome]
set_option maxHeartbeats 1000000 in
theorem use_ct {k : PH} (n : Int) : CT Tryz.prog 95 #[.int .i64 n] k (fun _ v => v = useV n) := by
  refine ct_of_body (l := [_]) Tryz.func95 rfl Tryz.ntmps95 (by simp) (fun _ _ _ _ h => h) fun F hF0 hFm => ?_
  repeat (first | refine cg_seq ?_ | refine cg_region ?_)
  refine rb rfl rfl rfl rfl (a_alloc rfl) ?_; intro b2 k2 hb2 hN2 hle2 hk2
  repeat (first | refine cg_seq ?_ | refine cg_region ?_ | refine rg_nil ?_ | refine eg_then ?_ | refine qsp ?_ | refine cg_block ?_)
  cases q1 : (n == 1)
  rotate_left
  · repeat (first | refine cg_seq ?_ | refine cg_region ?_ | refine cg_cond_true rfl ?_)
    refine rs rfl rfl (loc_det rfl (d_lit (cells := U5.vs (true, false, true, true, true)) rfl rfl rfl)) ?_
    refine rw1 (vs := U5.vs (true, false, true, true, true)) rfl rfl rfl rfl rfl rfl rfl hk2 rfl (.inl hN2) ?_ ?_
    · simp [U5.vs, Value.oneCell']
    intro k3 ht3 hk3
    have c3 := cells_at (vs := U5.vs (true, false, true, true, true)) hk3 rfl
    repeat (first | refine rg_nil ?_ | refine eg_then ?_ | refine qsp ?_ | refine cg_ret ?_ | refine eg_then_ret ?_ | refine eg_in_ret ?_)
    refine eg_returnC2 rfl rfl rfl rfl c3 rfl ?_
    have : n = 1 := by simpa using q1
    subst this; rfl
  repeat (first | refine cg_seq ?_ | refine cg_region ?_ | refine rg_nil ?_ | refine eg_then ?_ | refine qsp ?_ | refine cg_cond_false rfl ?_)
  cases q2 : (n == 2)
  rotate_left
  · repeat (first | refine cg_seq ?_ | refine cg_region ?_ | refine cg_cond_true rfl ?_)
    refine rs rfl rfl (loc_det rfl (d_lit (cells := U5.vs (true, false, false, false, false)) rfl rfl rfl)) ?_
    refine rw1 (vs := U5.vs (true, false, false, false, false)) rfl rfl rfl rfl rfl rfl rfl hk2 rfl (.inl hN2) ?_ ?_
    · simp [U5.vs, Value.oneCell']
    intro k3 ht3 hk3
    have c3 := cells_at (vs := U5.vs (true, false, false, false, false)) hk3 rfl
    repeat (first | refine rg_nil ?_ | refine eg_then ?_ | refine qsp ?_ | refine cg_ret ?_ | refine eg_then_ret ?_ | refine eg_in_ret ?_)
    refine eg_returnC2 rfl rfl rfl rfl c3 rfl ?_
    have : n = 2 := by simpa using q2
    subst this; rfl
  repeat (first | refine cg_seq ?_ | refine cg_region ?_ | refine rg_nil ?_ | refine eg_then ?_ | refine qsp ?_ | refine cg_cond_false rfl ?_)
  cases q3 : (n == 3)
  rotate_left
  · repeat (first | refine cg_seq ?_ | refine cg_region ?_ | refine cg_cond_true rfl ?_)
    refine rs rfl rfl (loc_det rfl (d_lit (cells := U5.vs (true, false, true, false, false)) rfl rfl rfl)) ?_
    refine rw1 (vs := U5.vs (true, false, true, false, false)) rfl rfl rfl rfl rfl rfl rfl hk2 rfl (.inl hN2) ?_ ?_
    · simp [U5.vs, Value.oneCell']
    intro k3 ht3 hk3
    have c3 := cells_at (vs := U5.vs (true, false, true, false, false)) hk3 rfl
    repeat (first | refine rg_nil ?_ | refine eg_then ?_ | refine qsp ?_ | refine cg_ret ?_ | refine eg_then_ret ?_ | refine eg_in_ret ?_)
    refine eg_returnC2 rfl rfl rfl rfl c3 rfl ?_
    have : n = 3 := by simpa using q3
    subst this; rfl
  repeat (first | refine cg_seq ?_ | refine cg_region ?_ | refine rg_nil ?_ | refine eg_then ?_ | refine qsp ?_ | refine cg_cond_false rfl ?_)
  cases q4 : (n == 4)
  rotate_left
  · repeat (first | refine cg_seq ?_ | refine cg_region ?_ | refine cg_cond_true rfl ?_)
    refine rs rfl rfl (loc_det rfl (d_lit (cells := U5.vs (true, false, false, false, true)) rfl rfl rfl)) ?_
    refine rw1 (vs := U5.vs (true, false, false, false, true)) rfl rfl rfl rfl rfl rfl rfl hk2 rfl (.inl hN2) ?_ ?_
    · simp [U5.vs, Value.oneCell']
    intro k3 ht3 hk3
    have c3 := cells_at (vs := U5.vs (true, false, false, false, true)) hk3 rfl
    repeat (first | refine rg_nil ?_ | refine eg_then ?_ | refine qsp ?_ | refine cg_ret ?_ | refine eg_then_ret ?_ | refine eg_in_ret ?_)
    refine eg_returnC2 rfl rfl rfl rfl c3 rfl ?_
    have : n = 4 := by simpa using q4
    subst this; rfl
  repeat (first | refine cg_seq ?_ | refine cg_region ?_ | refine rg_nil ?_ | refine eg_then ?_ | refine qsp ?_ | refine cg_cond_false rfl ?_)
  cases q5 : (n == 5)
  rotate_left
  · repeat (first | refine cg_seq ?_ | refine cg_region ?_ | refine cg_cond_true rfl ?_)
    refine rs rfl rfl (loc_det rfl (d_lit (cells := U5.vs (true, true, true, false, false)) rfl rfl rfl)) ?_
    refine rw1 (vs := U5.vs (true, true, true, false, false)) rfl rfl rfl rfl rfl rfl rfl hk2 rfl (.inl hN2) ?_ ?_
    · simp [U5.vs, Value.oneCell']
    intro k3 ht3 hk3
    have c3 := cells_at (vs := U5.vs (true, true, true, false, false)) hk3 rfl
    repeat (first | refine rg_nil ?_ | refine eg_then ?_ | refine qsp ?_ | refine cg_ret ?_ | refine eg_then_ret ?_ | refine eg_in_ret ?_)
    refine eg_returnC2 rfl rfl rfl rfl c3 rfl ?_
    have : n = 5 := by simpa using q5
    subst this; rfl
  repeat (first | refine cg_seq ?_ | refine cg_region ?_ | refine rg_nil ?_ | refine eg_then ?_ | refine qsp ?_ | refine cg_cond_false rfl ?_)
  cases q6 : (n == 6)
  rotate_left
  · repeat (first | refine cg_seq ?_ | refine cg_region ?_ | refine cg_cond_true rfl ?_)
    refine rs rfl rfl (loc_det rfl (d_lit (cells := U5.vs (true, false, true, true, false)) rfl rfl rfl)) ?_
    refine rw1 (vs := U5.vs (true, false, true, true, false)) rfl rfl rfl rfl rfl rfl rfl hk2 rfl (.inl hN2) ?_ ?_
    · simp [U5.vs, Value.oneCell']
    intro k3 ht3 hk3
    have c3 := cells_at (vs := U5.vs (true, false, true, true, false)) hk3 rfl
    repeat (first | refine rg_nil ?_ | refine eg_then ?_ | refine qsp ?_ | refine cg_ret ?_ | refine eg_then_ret ?_ | refine eg_in_ret ?_)
    refine eg_returnC2 rfl rfl rfl rfl c3 rfl ?_
    have : n = 6 := by simpa using q6
    subst this; rfl
  repeat (first | refine cg_seq ?_ | refine cg_region ?_ | refine rg_nil ?_ | refine eg_then ?_ | refine qsp ?_ | refine cg_cond_false rfl ?_)
  cases q7 : (n == 7)
  rotate_left
  · repeat (first | refine cg_seq ?_ | refine cg_region ?_ | refine eg_then ?_ | refine cg_cond_true rfl ?_ | refine cg_skip ?_)
    refine rs rfl rfl (loc_det rfl (d_lit (cells := U5.vs (false, true, true, true, false)) rfl rfl rfl)) ?_
    refine rw1 (vs := U5.vs (false, true, true, true, false)) rfl rfl rfl rfl rfl rfl rfl hk2 rfl (.inl hN2) ?_ ?_
    · simp [U5.vs, Value.oneCell']
    intro k3 ht3 hk3
    have c3 := cells_at (vs := U5.vs (false, true, true, true, false)) hk3 rfl
    repeat (first | refine rg_nil ?_ | refine eg_then ?_ | refine qsp ?_ | refine cg_ret ?_ | refine eg_then_ret ?_ | refine eg_in_ret ?_)
    refine eg_returnC2 rfl rfl rfl rfl c3 rfl ?_
    have : n = 7 := by simpa using q7
    subst this; rfl
  repeat (first | refine cg_region ?_ | refine rg_nil ?_ | refine eg_then ?_ | refine qsp ?_ | refine cg_cond_false rfl ?_)
  cases q8 : (n == 8)
  rotate_left
  · repeat (first | refine cg_seq ?_ | refine cg_region ?_ | refine cg_cond_true rfl ?_)
    refine rs rfl rfl (loc_det rfl (d_lit (cells := U5.vs (false, true, true, true, false)) rfl rfl rfl)) ?_
    refine rw1 (vs := U5.vs (false, true, true, true, false)) rfl rfl rfl rfl rfl rfl rfl hk2 rfl (.inl hN2) ?_ ?_
    · simp [U5.vs, Value.oneCell']
    intro k3 ht3 hk3
    have c3 := cells_at (vs := U5.vs (false, true, true, true, false)) hk3 rfl
    repeat (first | refine rg_nil ?_ | refine eg_then ?_ | refine qsp ?_ | refine cg_ret ?_ | refine eg_then_ret ?_ | refine eg_in_ret ?_)
    refine eg_returnC2 rfl rfl rfl rfl c3 rfl ?_
    have : n = 8 := by simpa using q8
    subst this; rfl
  repeat (first | refine cg_seq ?_ | refine cg_region ?_ | refine eg_then ?_ | refine cg_cond_false rfl ?_ | refine cg_skip ?_ | refine eg_in_normal ?_)
  refine rs rfl rfl (loc_det rfl (d_lit (cells := U5.vs noU) rfl rfl rfl)) ?_
  refine rw1 (vs := U5.vs noU) rfl rfl rfl rfl rfl rfl rfl hk2 rfl (.inl hN2) ?_ ?_
  · simp [U5.vs, Value.oneCell']
  intro k3 ht3 hk3
  have c3 := cells_at (vs := U5.vs noU) hk3 rfl
  repeat (first | refine rg_nil ?_ | refine eg_then ?_ | refine qsp ?_ | refine cg_ret ?_)
  refine eg_returnC2 rfl rfl rfl rfl c3 rfl ?_
  simp only [beq_eq_false_iff_ne] at q1 q2 q3 q4 q5 q6 q7 q8
  have : useK n = none := by simp [useK, q1, q2, q3, q4, q5, q6, q7, q8]
  unfold useV
  rw [this]
  rfl
set_option maxHeartbeats 400000 in
theorem formed1_ct {k : PH} (u : Bool) (s : ByteArray) (hs : s.size ≤ maxLen) : CT Tryz.prog 96 #[.bool u, .string s] k (fun _ v => v = .bool (textU u s)) := by
  refine ct_of_body (l := [_, _]) Tryz.func96 rfl Tryz.ntmps96 (by simp) (fun _ _ _ _ h => h) fun F hF0 hFm => ?_
  cases u
  · repeat (first | refine cg_seq ?_ | refine cg_region ?_ | refine rg_nil ?_ | refine eg_then ?_ | refine qsp ?_ | refine qso ?_ | refine cg_ret ?_)
    exact eg_return rfl rfl rfl
  · repeat (first | refine cg_seq ?_ | refine cg_region ?_ | refine rg_nil ?_ | refine eg_then ?_ | refine qsp ?_)
    refine rs rfl rfl (loc_call_is rfl rfl rfl rfl (name_ct s hs)) ?_
    repeat (first | refine qsp ?_)
    cases q : isName s
    · repeat (first | refine rg_nil ?_ | refine eg_then ?_ | refine qsp ?_ | refine qso ?_ | refine cg_ret ?_)
      refine eg_return rfl rfl ?_
      simp [textU, q]
    · repeat (first | refine rg_nil ?_ | refine eg_then ?_ | refine qsp ?_ | refine qso ?_ | refine cg_ret ?_)
      refine eg_return rfl rfl ?_
      simp [textU, q]
set_option maxHeartbeats 400000 in
theorem formed2_ct {k : PH} (u : Bool) (n : Int) : CT Tryz.prog 98 #[.bool u, .int .i64 n] k (fun _ v => v = .bool (numU u n)) := by
  refine ct_of_body (l := [_, _]) Tryz.func98 rfl Tryz.ntmps98 (by simp) (fun _ _ _ _ h => h) fun F hF0 hFm => ?_
  repeat (first | refine cg_seq ?_ | refine cg_region ?_ | refine rg_nil ?_ | refine eg_then ?_ | refine qsp ?_)
  cases q : (n == 0)
  · have q' : ¬ n = 0 := by simpa using q
    repeat (first | refine qsp ?_)
    cases u
    · repeat (first | refine rg_nil ?_ | refine eg_then ?_ | refine qsp ?_ | refine qso ?_ | refine cg_ret ?_)
      refine eg_return rfl rfl ?_
      simp [numU, q']
    · repeat (first | refine qsp ?_)
      refine rs rfl rfl (loc_call_is rfl rfl rfl rfl (within_ct n 0 1099511627776)) ?_
      repeat (first | refine rg_nil ?_ | refine eg_then ?_ | refine qsp ?_ | refine cg_ret ?_)
      refine eg_return rfl rfl ?_
      simp [numU, q']
  · have q' : n = 0 := by simpa using q
    repeat (first | refine rg_nil ?_ | refine eg_then ?_ | refine qsp ?_ | refine qso ?_ | refine cg_ret ?_)
    refine eg_return rfl rfl ?_
    simp [numU, q']
set_option maxHeartbeats 1000000 in
theorem formed_ct {k : PH} (s : Step) (hok : s.ok) : CT Tryz.prog 38 #[.agg s.vs.toArray] k (fun _ v => v = .bool (formS s)) := by
  refine ct_of_body (l := [_]) Tryz.func38 rfl Tryz.ntmps38 (by simp) (fun _ _ _ _ h => h) fun F hF0 hFm => ?_
  repeat (first | refine cg_seq ?_ | refine cg_region ?_)
  refine rb rfl rfl rfl rfl (a_box rfl rfl) ?_; intro b1 k1 hb1 hN1 hle1 hk1
  have c1 := cells_at (vs := s.vs) hk1 rfl
  obtain ⟨p0, p1, p2, p3, p4, p5⟩ := Step.parts c1
  repeat (first | refine cg_seq ?_ | refine cg_region ?_ | refine rg_nil ?_ | refine eg_then ?_ | refine qsp ?_ | refine qsl ?_ | refine qsf ?_)
  refine rs rfl rfl (loc_call_is rfl rfl rfl rfl (use_ct s.kind)) ?_
  unfold useV
  obtain ⟨u, hu⟩ : ∃ u : U5, (useK s.kind).getD noU = u := ⟨_, rfl⟩
  rw [hu]
  repeat (first | refine qsp ?_)
  refine rb rfl rfl rfl rfl (a_alloc rfl) ?_; intro b2 k2 hb2 hN2 hle2 hk2
  refine rw1 (vs := U5.vs u) rfl rfl rfl rfl rfl rfl rfl hk2 rfl (.inl hN2) ?_ ?_
  · simp [U5.vs, Value.oneCell']
  intro k3 ht3 hk3
  have c3 := cells_at (vs := U5.vs u) hk3 rfl
  have hle3 : Le k1 k3 := ht3 k1 hle2 hb2
  obtain ⟨p0, p1, p2, p3, p4, p5⟩ := Step.parts (c1.le hle3)
  obtain ⟨r0, r1, r2, r3, r4⟩ := U5.parts c3
  have no : ∀ {b : Bool}, b = false → formS s = b → Value.bool false = .bool (formS s) := fun h1 h2 => by rw [h2, h1]
  repeat (first | refine cg_seq ?_ | refine cg_region ?_ | refine rg_nil ?_ | refine eg_then ?_ | refine qsp ?_)
  cases q0 : (useK s.kind).isSome
  · repeat (first | refine rg_nil ?_ | refine eg_then ?_ | refine qsp ?_ | refine qso ?_ | refine cg_ret ?_)
    refine eg_return rfl rfl ?_
    have : useK s.kind = none := by simpa using q0
    simp [formS, this]
  have hs : useK s.kind = some u := by
    cases e : useK s.kind with
    | none => rw [e] at q0; cases q0
    | some x => rw [e] at hu; rw [← hu]; rfl
  have hf : formS s = (textU u.1 s.name && (textU u.2.1 s.topic && (numU u.2.2.1 s.a && (numU u.2.2.2.1 s.b && numU u.2.2.2.2 s.c)))) := by
    unfold formS; rw [hs]
  repeat (first | refine qsp ?_ | refine qsl ?_ | refine qsf ?_)
  refine rs rfl rfl (loc_call_is rfl rfl rfl rfl (formed1_ct u.1 s.name hok.2.1)) ?_
  repeat (first | refine qsp ?_)
  cases q1 : textU u.1 s.name
  · repeat (first | refine rg_nil ?_ | refine eg_then ?_ | refine qsp ?_ | refine qso ?_ | refine cg_ret ?_)
    exact eg_return rfl rfl (by rw [hf, q1]; rfl)
  repeat (first | refine qsp ?_ | refine qsl ?_ | refine qsf ?_)
  refine rs rfl rfl (loc_call_is rfl rfl rfl rfl (formed1_ct u.2.1 s.topic hok.2.2.1)) ?_
  repeat (first | refine qsp ?_)
  cases q2 : textU u.2.1 s.topic
  · repeat (first | refine rg_nil ?_ | refine eg_then ?_ | refine qsp ?_ | refine qso ?_ | refine cg_ret ?_)
    exact eg_return rfl rfl (by rw [hf, q1, q2]; rfl)
  repeat (first | refine qsp ?_ | refine qsl ?_ | refine qsf ?_)
  refine rs rfl rfl (loc_call_is rfl rfl rfl rfl (formed2_ct u.2.2.1 s.a)) ?_
  repeat (first | refine qsp ?_)
  cases q3 : numU u.2.2.1 s.a
  · repeat (first | refine rg_nil ?_ | refine eg_then ?_ | refine qsp ?_ | refine qso ?_ | refine cg_ret ?_)
    exact eg_return rfl rfl (by rw [hf, q1, q2, q3]; rfl)
  repeat (first | refine qsp ?_ | refine qsl ?_ | refine qsf ?_)
  refine rs rfl rfl (loc_call_is rfl rfl rfl rfl (formed2_ct u.2.2.2.1 s.b)) ?_
  repeat (first | refine qsp ?_)
  cases q4 : numU u.2.2.2.1 s.b
  · repeat (first | refine rg_nil ?_ | refine eg_then ?_ | refine qsp ?_ | refine qso ?_ | refine cg_ret ?_)
    exact eg_return rfl rfl (by rw [hf, q1, q2, q3, q4]; rfl)
  repeat (first | refine qsp ?_ | refine qsl ?_ | refine qsf ?_)
  refine rs rfl rfl (loc_call_is rfl rfl rfl rfl (formed2_ct u.2.2.2.2 s.c)) ?_
  repeat (first | refine rg_nil ?_ | refine eg_then ?_ | refine qsp ?_ | refine cg_ret ?_)
  exact eg_return rfl rfl (by rw [hf, q1, q2, q3, q4]; rfl)
end Go.Wm

/-
  How this seat's program was made. Conditions: none.
-/
import Derived.Test.YtbhgbfhgdccghaaGreatL2
import Derived.Test.YtbhgbfhgdccghaaGreatR2
import Derived.Test.YtbhgbfhgdccghaaGreatN14
import Derived.Test.YtbhgbfhgdccghaaGreatK14
import Derived.Test.YtbhgbfhgdccghaaGreatDat
import Derived.Test.YtbhgbfhgdccghaaGreatRows
set_option linter.all false
namespace Go.Wm
open Go.RowKit Go.Proofs
attribute [local irreducible] RG CG EG WA Loc Det Alc CT Exit.then Exit.inBlock Code.wp bodyPost
set_option maxHeartbeats 4000000 in
theorem groupLeaves_walk {k : PH} {g : Group} {cg : List Value} (hg : tGroup.rep k cg g) (hsml : g.small) {id : ByteArray} (hid : id.size ≤ maxLen) {gen : Int} (hgen : I64 gen) {now : Int} (hnow : I64 now) {most : Int} (hmost : I64 most) : CT Tryz.prog 4 #[.agg cg.toArray, .string id, .int .i64 gen, .int .i64 now, .int .i64 most] k (fun _ v => v = .bool true) := by
  obtain ⟨a, c, rfl, hl, hok⟩ := hg
  have hsm := Group.smallG hsml
  unfold maxLen at hid
  refine ct_of_body (l := [_, _, _, _, _]) Tryz.func4 rfl Tryz.ntmps4 (by simp) (fun _ _ _ _ h => h) fun F hF0 hFm => ?_
  have b1 := hl.cap; have b2 := hl.max; unfold maxLen at b2
  repeat (first | refine cg_seq ?_ | refine cg_region ?_)
  refine rb rfl rfl rfl rfl (a_box rfl rfl) ?_; intro b5 k5 hb5 hN5 hle5 hk5
  have hl := hl.le hle5
  have c5 := cells_at (vs := g.cs a c) hk5 rfl
  repeat (first | refine cg_seq ?_ | refine cg_region ?_ | refine rg_nil ?_ | refine eg_then ?_ | refine qsp ?_)
  refine rs rfl rfl (loc_call_is rfl rfl rfl rfl (live_ct)) ?_
  repeat (first | refine cg_seq ?_ | refine cg_region ?_ | refine rg_nil ?_ | refine eg_then ?_ | refine qsp ?_ | refine qsg ?_ | refine cg_cond_false rfl ?_ | refine cg_skip ?_)
  refine rs rfl rfl (loc_call_is rfl rfl rfl rfl (few_ct hl)) ?_
  cases q1 : fewG g
  · repeat (first | refine cg_seq ?_ | refine cg_region ?_ | refine rg_nil ?_ | refine eg_then ?_ | refine qsp ?_ | refine qso ?_ | refine cg_cond_true rfl ?_ | refine cg_ret ?_ | refine eg_then_ret ?_)
    exact eg_return rfl rfl rfl
  repeat (first | refine qsp ?_)
  refine rs rfl rfl (loc_det rfl (d_len_str rfl rfl)) ?_
  repeat (first | refine rg_nil ?_ | refine eg_then ?_ | refine qsp ?_)
  cases q3 : decide ((100 : Int) < (id.size : Int))
  case true =>
    repeat (first | refine cg_seq ?_ | refine cg_region ?_ | refine rg_nil ?_ | refine eg_then ?_ | refine qsp ?_ | refine cg_cond_true rfl ?_ | refine cg_ret ?_ | refine eg_then_ret ?_)
    exact eg_return rfl rfl rfl
  repeat (first | refine cg_seq ?_ | refine cg_region ?_ | refine eg_then ?_ | refine qsp ?_ | refine qsg ?_ | refine cg_cond_false rfl ?_ | refine cg_skip ?_)
  refine rv rfl rfl rfl (loc_call rfl rfl rfl rfl GrpV.mono (leave_ct hl hok hsm id)) ?_
  rintro kp6 hlp6 _ ⟨a6, c6, rfl, h6⟩
  repeat (first | refine qsp ?_)
  refine rb rfl rfl rfl rfl (a_alloc rfl) ?_; intro bb6 kq6 hbq6 hNq6 hlq6 hkq6
  refine rw1 (vs := (leaveG g id).1.cs a6 c6) rfl rfl rfl rfl rfl rfl rfl hkq6 rfl (.inl hNq6) (by simp [Group.cs, Value.oneCell']) ?_
  intro kr6 htr6 hkr6
  have hlr6 := htr6 kp6 hlq6 hbq6
  have hlt6 := hlp6.trans hlr6
  have h6 := h6.le hlr6
  have c5 := c5.le hlt6
  have hl := hl.le hlt6
  have d6 := cells_at (vs := (leaveG g id).1.cs a6 c6) hkr6 rfl
  clear hkq6 htr6 hlq6 hlr6 hlt6 hlp6 hkr6
  repeat (first | refine cg_seq ?_ | refine cg_region ?_ | refine rg_nil ?_ | refine eg_then ?_ | refine qsp ?_ | refine qsg ?_)
  refine rv rfl rfl rfl (loc_call rfl rfl rfl rfl GrpV.mono (refLeave_ct hl hok hsm id)) ?_
  rintro kp7 hlp7 _ ⟨a7, c7, rfl, h7⟩
  repeat (first | refine qsp ?_)
  refine rb rfl rfl rfl rfl (a_alloc rfl) ?_; intro bb7 kq7 hbq7 hNq7 hlq7 hkq7
  refine rw1 (vs := (leaveG g id).1.cs a7 c7) rfl rfl rfl rfl rfl rfl rfl hkq7 rfl (.inl hNq7) (by simp [Group.cs, Value.oneCell']) ?_
  intro kr7 htr7 hkr7
  have hlr7 := htr7 kp7 hlq7 hbq7
  have hlt7 := hlp7.trans hlr7
  have h7 := h7.le hlr7
  have c5 := c5.le hlt7
  have hl := hl.le hlt7
  have h6 := h6.le hlt7
  have d6 := d6.le hlt7
  have d7 := cells_at (vs := (leaveG g id).1.cs a7 c7) hkr7 rfl
  clear hkq7 htr7 hlq7 hlr7 hlt7 hlp7 hkr7
  repeat (first | refine cg_seq ?_ | refine cg_region ?_ | refine rg_nil ?_ | refine eg_then ?_ | refine qsp ?_ | refine qsg ?_)
  refine rv rfl rfl rfl (loc_call rfl rfl rfl rfl GrpV.mono (tick_ct hl hok hsm now most)) ?_
  rintro kp8 hlp8 _ ⟨a8, c8, rfl, h8⟩
  repeat (first | refine qsp ?_)
  refine rb rfl rfl rfl rfl (a_alloc rfl) ?_; intro bb8 kq8 hbq8 hNq8 hlq8 hkq8
  refine rw1 (vs := (tickG g now most).1.cs a8 c8) rfl rfl rfl rfl rfl rfl rfl hkq8 rfl (.inl hNq8) (by simp [Group.cs, Value.oneCell']) ?_
  intro kr8 htr8 hkr8
  have hlr8 := htr8 kp8 hlq8 hbq8
  have hlt8 := hlp8.trans hlr8
  have h8 := h8.le hlr8
  have c5 := c5.le hlt8
  have hl := hl.le hlt8
  have h6 := h6.le hlt8
  have d6 := d6.le hlt8
  have h7 := h7.le hlt8
  have d7 := d7.le hlt8
  have d8 := cells_at (vs := (tickG g now most).1.cs a8 c8) hkr8 rfl
  clear hkq8 htr8 hlq8 hlr8 hlt8 hlp8 hkr8
  repeat (first | refine cg_seq ?_ | refine cg_region ?_ | refine rg_nil ?_ | refine eg_then ?_ | refine qsp ?_ | refine qsg ?_)
  refine rv rfl rfl rfl (loc_call rfl rfl rfl rfl GrpV.mono (refTick_ct hl hok hsm now most)) ?_
  rintro kp9 hlp9 _ ⟨a9, c9, rfl, h9⟩
  repeat (first | refine qsp ?_)
  refine rb rfl rfl rfl rfl (a_alloc rfl) ?_; intro bb9 kq9 hbq9 hNq9 hlq9 hkq9
  refine rw1 (vs := (tickG g now most).1.cs a9 c9) rfl rfl rfl rfl rfl rfl rfl hkq9 rfl (.inl hNq9) (by simp [Group.cs, Value.oneCell']) ?_
  intro kr9 htr9 hkr9
  have hlr9 := htr9 kp9 hlq9 hbq9
  have hlt9 := hlp9.trans hlr9
  have h9 := h9.le hlr9
  have c5 := c5.le hlt9
  have hl := hl.le hlt9
  have h6 := h6.le hlt9
  have d6 := d6.le hlt9
  have h7 := h7.le hlt9
  have d7 := d7.le hlt9
  have h8 := h8.le hlt9
  have d8 := d8.le hlt9
  have d9 := cells_at (vs := (tickG g now most).1.cs a9 c9) hkr9 rfl
  clear hkq9 htr9 hlq9 hlr9 hlt9 hlp9 hkr9
  have s1 := sameG_ct (g := (leaveG g id).1) (g' := (leaveG g id).1) h6 h7
  have s2 := sameG_ct (g := (tickG g now most).1) (g' := (tickG g now most).1) h8 h9
  rw [show decide ((leaveG g id).1 = (leaveG g id).1) = true by simp] at s1
  rw [show decide ((tickG g now most).1 = (tickG g now most).1) = true by simp] at s2
  repeat (first | refine cg_seq ?_ | refine cg_region ?_ | refine rg_nil ?_ | refine eg_then ?_ | refine qsp ?_ | refine qsg ?_)
  refine rs rfl rfl (loc_call_is rfl rfl rfl rfl (s1)) ?_
  repeat (first | refine qsp ?_ | refine qsg ?_)
  refine rs rfl rfl (loc_call_is rfl rfl rfl rfl (s2)) ?_
  have e1 := fence_ct hl hok hsm id gen
  have e2 := refFence_ct hl hok id gen
  repeat (first | refine cg_seq ?_ | refine rg_nil ?_ | refine eg_then ?_ | refine qsp ?_)
  refine cg_any (by kernel_rfl) rfl ?_
  repeat (first | refine qwp ?_)
  rw [show ((leaveG g id).2 == (leaveG g id).2) = true by simp]
  repeat (first | refine qwp ?_)
  rw [show ((tickG g now most).2 == (tickG g now most).2) = true by simp]
  repeat (first | refine qwp ?_ | refine qwg ?_)
  refine ws rfl (loc_call_is rfl rfl rfl rfl (e1)) ?_
  repeat (first | refine qwp ?_ | refine qwg ?_)
  refine ws rfl (loc_call_is rfl rfl rfl rfl (e2)) ?_
  repeat (first | refine qwp ?_ | (refine wn rfl ?_; refine eg_then ?_))
  rw [show (fenceG g id gen == fenceG g id gen) = true by simp]
  skip
  repeat (first | refine cg_ret ?_)
  exact eg_return rfl rfl rfl
end Go.Wm
namespace Go.Wm
open Go.RowKit Go.Proofs
theorem mayEnter_ok : Tryz.prog.mayEnter = true := by kernel_rfl
end Go.Wm
namespace Go.Wm
open Go.RowKit Go.Proofs
theorem liftsFinal_nil : Tryz.prog.liftsFinal = false := by kernel_rfl
end Go.Wm
namespace Go.Wm
open Go.RowKit Go.Proofs
theorem make_eq : Tryz.prog.make = some (({ program := "", sum := "", func := "", spec := "" } : OpenClaim).make) := by kernel_rfl
end Go.Wm

/-
  GroupLeaves: for every input the law returns true and leaves its arguments as they were. Conditions: none.
-/
import Derived.Test.YtbhgbfhgdccghaaGreatLw
import Derived.Test.YtbhgbfhgdccghaaGreatCoB
import Derived.Test.YtbhgbfhgdccghaaGreatLw3
set_option linter.all false
namespace Go.Proofs.YtbhgbfhgdccghaaGreat
open Go.RowKit Go.ChangeShapes Go.WideShapes Go.ChangeAt Go.Wm

set_option maxRecDepth 100000 in
theorem groupLeaves_lifted (os : Os) (started : os.Started) (H : Type) (enc : TypeId × Value → H) :
    ReturnsInHanded {} Tryz.checked os 4 .any (Rows.groupLeavesSpec.pre6 enc Tryz.prog Tryz.f4 Rows.groupLeavesRow.domain false) (Rows.groupLeavesSpec.post enc Tryz.prog Tryz.f4 false true false false) := by
  refine returnsInHanded_of_change_shaped (C := Tryz.checked) own started (by kernel_rfl) Tryz.func4
    (ChangeSpec.witness6 (enc := enc) (C := Tryz.checked) false ⟨#[], #[.agg #[.string ByteArray.empty, .int .i64 0, .int .i64 0, .slice none 0 0], .string ByteArray.empty, .int .i64 0, .int .i64 0, .int .i64 0], []⟩ 8 (by kernel_rfl) (by kernel_rfl) (by kernel_rfl) (by kernel_rfl)) ?_
  intro W base args ds gs before hval0 hW hcnd hwt _ _
  have hval : ∀ (j : Nat) t v, Tryz.f4.params[j]? = some t → args[j]? = some v → Value.okWide Tryz.prog W .any base t v := hval0
  have hW' := hW
  have hlt0 : ∀ x ∈ before, x.block < W.heap.size := fun x hx => hW.lt x hx
  obtain ⟨p, q, hA0, hV, rfl, hfz, hnd⟩ := hW
  have hA : DataW.TrodAll enc Tryz.prog W 0 (fun _ => true) true Tryz.f4.params.toList args.toList ds p := hA0
  have hA1 := hA
  rw [Tryz.params4] at hA hval
  obtain ⟨v0, vs0, d0, ds0, p0, q0, hargs, rfl, rfl, h0, r0⟩ := trodAll_cons hA
  obtain ⟨v1, vs1, d1, ds1, p1, q1, rfl, rfl, rfl, h1, r1⟩ := trodAll_cons r0
  obtain ⟨v2, vs2, d2, ds2, p2, q2, rfl, rfl, rfl, h2, r2⟩ := trodAll_cons r1
  obtain ⟨v3, vs3, d3, ds3, p3, q3, rfl, rfl, rfl, h3, r3⟩ := trodAll_cons r2
  obtain ⟨v4, vs4, d4, ds4, p4, q4, rfl, rfl, rfl, h4, r4⟩ := trodAll_cons r3
  obtain ⟨rfl, rfl, rfl⟩ := trodAll_nil r4
  obtain rfl : args = #[v0, v1, v2, v3, v4] := by cases args; simp_all
  obtain ⟨rfl, rfl⟩ := trodVars_none hV
  have hwt : (DataW.weightsEach Tryz.prog [24, 9, 3, 3, 3] [d0, d1, d2, d3, d4]).all (fun q => decide (q ≤ reachBytes)) = true := hwt
  obtain ⟨g0, hwt⟩ := weightsEach_cons hwt
  obtain ⟨g1, hwt⟩ := weightsEach_cons hwt
  obtain ⟨g2, hwt⟩ := weightsEach_cons hwt
  obtain ⟨g3, hwt⟩ := weightsEach_cons hwt
  obtain ⟨g4, hwt⟩ := weightsEach_cons hwt
  obtain ⟨l0, x0, rfl, w0, b0⟩ := wgarg_agg (T := tGroup) Tryz.underlying24 (hval 0 24 v0 rfl rfl) h0 g0
  obtain ⟨s1, rfl, w1⟩ := garg_str Tryz.underlying9 (hval 1 9 v1 rfl rfl) h1
  obtain ⟨s2, rfl, w2⟩ := garg_int Tryz.underlying3 (hval 2 3 v2 rfl rfl) h2
  obtain ⟨s3, rfl, w3⟩ := garg_int Tryz.underlying3 (hval 3 3 v3 rfl rfl) h3
  obtain ⟨s4, rfl, w4⟩ := garg_int Tryz.underlying3 (hval 4 3 v4 rfl rfl) h4
  clear hA0 hval0
  refine (gwalk_of_ct (groupLeaves_walk w0 b0 w1 w2 w3 w4)).mono fun e W' ⟨he, bel⟩ => ?_
  subst he
  exact ⟨_, rfl, _, _, _, [], _, [], hW', trodAll_mk1 (shut_bool Tryz.underlying4 _), trodAll_below laidOut bel _ _ _ _ (by kernel_rfl) hA1 (fun x hx => hlt0 x (by simpa using hx)), rfl, bel.frame _, fun h => by cases h⟩

theorem groupLeaves_over : Rows.groupLeavesRow.holds Tryz.pinned (OpenSpec.ofChange Rows.groupLeavesSpec) :=
  OpenClaim.holds_of_wide 4 Tryz.f4 rfl rfl rfl rfl rfl rfl rfl ⟨rfl, rfl, rfl, rfl, rfl⟩ rfl rfl rfl rfl rfl (by kernel_rfl) Tryz.func4 (by show joinedFacts Tryz.prog 4 Tryz.f4 Rows.groupLeavesSpec Rows.groupLeavesRow = true; unfold joinedFacts; rw [mayEnter_ok, liftsFinal_nil, make_eq]; kernel_rfl)
    (of_decide_eq_true (by kernel_rfl)) (by unfold Func.isWrapper; first | (rw [if_pos (by decide +kernel)]; kernel_rfl) | (rw [if_neg (by decide +kernel)]; exact ⟨rfl, rfl⟩))
    (fun os started H enc _ => groupLeaves_lifted os started H enc)

theorem groupLeaves_holds : Rows.GroupLeavesSaid := groupLeaves_over
end Go.Proofs.YtbhgbfhgdccghaaGreat

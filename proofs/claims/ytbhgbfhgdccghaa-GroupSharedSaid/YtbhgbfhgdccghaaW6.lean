/-
  GroupShared: for every input the law returns true and leaves its arguments as they were. Conditions: none.
-/
import Derived.Test.YtbhgbfhgdccghaaLw
import Derived.Test.YtbhgbfhgdccghaaCoB
import Derived.Test.YtbhgbfhgdccghaaL9
import Derived.Test.YtbhgbfhgdccghaaLw3
set_option linter.all false
namespace Go.Proofs.Ytbhgbfhgdccghaa
open Go.RowKit Go.ChangeShapes Go.WideShapes Go.ChangeAt Go.Wm

set_option maxRecDepth 100000 in
theorem groupShared_lifted (os : Os) (started : os.Started) (H : Type) (enc : TypeId × Value → H) :
    ReturnsInHanded {} Try.checked os 3 .any (Rows.groupSharedSpec.pre6 enc Try.prog Try.f3 Rows.groupSharedRow.domain false) (Rows.groupSharedSpec.post enc Try.prog Try.f3 false true false false) := by
  refine returnsInHanded_of_change_shaped (C := Try.checked) own started (by kernel_rfl) Try.func3
    (ChangeSpec.witness6 (enc := enc) (C := Try.checked) false ⟨#[], #[.agg #[.string ByteArray.empty, .int .i64 0, .int .i64 0, .slice none 0 0], .int .i64 0, .slice none 0 0], []⟩ 8 (by kernel_rfl) (by kernel_rfl) (by kernel_rfl) (by kernel_rfl)) ?_
  intro W base args ds gs before hval0 hW hcnd hwt _ _
  have hval : ∀ (j : Nat) t v, Try.f3.params[j]? = some t → args[j]? = some v → Value.okWide Try.prog W .any base t v := hval0
  have hW' := hW
  have hlt0 : ∀ x ∈ before, x.block < W.heap.size := fun x hx => hW.lt x hx
  obtain ⟨p, q, hA0, hV, rfl, hfz, hnd⟩ := hW
  have hA : DataW.TrodAll enc Try.prog W 0 (fun _ => true) true Try.f3.params.toList args.toList ds p := hA0
  have hA1 := hA
  rw [Try.params3] at hA hval
  obtain ⟨v0, vs0, d0, ds0, p0, q0, hargs, rfl, rfl, h0, r0⟩ := trodAll_cons hA
  obtain ⟨v1, vs1, d1, ds1, p1, q1, rfl, rfl, rfl, h1, r1⟩ := trodAll_cons r0
  obtain ⟨v2, vs2, d2, ds2, p2, q2, rfl, rfl, rfl, h2, r2⟩ := trodAll_cons r1
  obtain ⟨rfl, rfl, rfl⟩ := trodAll_nil r2
  obtain rfl : args = #[v0, v1, v2] := by cases args; simp_all
  obtain ⟨rfl, rfl⟩ := trodVars_none hV
  have hwt : (DataW.weightsEach Try.prog [24, 3, 25] [d0, d1, d2]).all (fun q => decide (q ≤ reachBytes)) = true := hwt
  obtain ⟨g0, hwt⟩ := weightsEach_cons hwt
  obtain ⟨g1, hwt⟩ := weightsEach_cons hwt
  obtain ⟨g2, hwt⟩ := weightsEach_cons hwt
  obtain ⟨l0, x0, rfl, w0, b0⟩ := wgarg_agg (T := tGroup) Try.underlying24 (hval 0 24 v0 rfl rfl) h0 g0
  obtain ⟨s1, rfl, w1⟩ := garg_int Try.underlying3 (hval 1 3 v1 rfl rfl) h1
  obtain ⟨a2, c2, l2, rfl, w2, b2⟩ := wgarg_sl (T := tTp) Try.underlying25 (hval 2 25 v2 rfl rfl) h2 g2
  clear hA0 hval0
  refine (gwalk_of_ct (groupShared_walk w0 b0 w1 w2 ((fun b => ⟨b.1, trivial⟩) b2))).mono fun e W' ⟨he, bel⟩ => ?_
  subst he
  exact ⟨_, rfl, _, _, _, [], _, [], hW', trodAll_mk1 (shut_bool Try.underlying4 _), trodAll_below laidOut bel _ _ _ _ (by kernel_rfl) hA1 (fun x hx => hlt0 x (by simpa using hx)), rfl, bel.frame _, fun h => by cases h⟩

theorem groupShared_over : Rows.groupSharedRow.holds Try.pinned (OpenSpec.ofChange Rows.groupSharedSpec) :=
  OpenClaim.holds_of_wide 3 Try.f3 rfl rfl rfl rfl rfl rfl rfl ⟨rfl, rfl, rfl, rfl, rfl⟩ rfl rfl rfl rfl rfl (by kernel_rfl) Try.func3 (by show joinedFacts Try.prog 3 Try.f3 Rows.groupSharedSpec Rows.groupSharedRow = true; unfold joinedFacts; rw [mayEnter_ok, liftsFinal_nil, make_eq]; kernel_rfl)
    (of_decide_eq_true (by kernel_rfl)) (by unfold Func.isWrapper; first | (rw [if_pos (by decide +kernel)]; kernel_rfl) | (rw [if_neg (by decide +kernel)]; exact ⟨rfl, rfl⟩))
    (fun os started H enc _ => groupShared_lifted os started H enc)

theorem groupShared_holds : Rows.GroupSharedSaid := groupShared_over
end Go.Proofs.Ytbhgbfhgdccghaa

/-
  GroupApart: for every input the law returns true and leaves its arguments as they were. Conditions: none.
-/
import Derived.Test.YtnijbmmghpbmgaaLw
import Derived.Test.YtnijbmmghpbmgaaCoB
import Derived.Test.YtnijbmmghpbmgaaL5
import Derived.Test.YtnijbmmghpbmgaaLw3
set_option linter.all false
namespace Go.Proofs.Ytnijbmmghpbmgaa
open Go.RowKit Go.ChangeShapes Go.WideShapes Go.ChangeAt Go.Wm

set_option maxRecDepth 100000 in
theorem groupApart_lifted (os : Os) (started : os.Started) (H : Type) (enc : TypeId × Value → H) :
    ReturnsInHanded {} Try.checked os 7 .any (Rows.groupApartSpec.pre6 enc Try.prog Try.f7 Rows.groupApartRow.domain false) (Rows.groupApartSpec.post enc Try.prog Try.f7 false true false false) := by
  refine returnsInHanded_of_change_shaped (C := Try.checked) own started (by kernel_rfl) Try.func7
    (ChangeSpec.witness6 (enc := enc) (C := Try.checked) false ⟨#[], #[.slice none 0 0, .slice none 0 0], []⟩ 8 (by kernel_rfl) (by kernel_rfl) (by kernel_rfl) (by kernel_rfl)) ?_
  intro W base args ds gs before hval0 hW hcnd hwt _ _
  have hval : ∀ (j : Nat) t v, Try.f7.params[j]? = some t → args[j]? = some v → Value.okWide Try.prog W .any base t v := hval0
  have hW' := hW
  have hlt0 : ∀ x ∈ before, x.block < W.heap.size := fun x hx => hW.lt x hx
  obtain ⟨p, q, hA0, hV, rfl, hfz, hnd⟩ := hW
  have hA : DataW.TrodAll enc Try.prog W 0 (fun _ => true) true Try.f7.params.toList args.toList ds p := hA0
  have hA1 := hA
  rw [Try.params7] at hA hval
  obtain ⟨v0, vs0, d0, ds0, p0, q0, hargs, rfl, rfl, h0, r0⟩ := trodAll_cons hA
  obtain ⟨v1, vs1, d1, ds1, p1, q1, rfl, rfl, rfl, h1, r1⟩ := trodAll_cons r0
  obtain ⟨rfl, rfl, rfl⟩ := trodAll_nil r1
  obtain rfl : args = #[v0, v1] := by cases args; simp_all
  obtain ⟨rfl, rfl⟩ := trodVars_none hV
  have hwt : (DataW.weightsEach Try.prog [49, 26] [d0, d1]).all (fun q => decide (q ≤ reachBytes)) = true := hwt
  obtain ⟨g0, hwt⟩ := weightsEach_cons hwt
  obtain ⟨g1, hwt⟩ := weightsEach_cons hwt
  obtain ⟨a0, c0, l0, rfl, w0, b0⟩ := wgarg_sl (T := tGOp) Try.underlying49 (hval 0 49 v0 rfl rfl) h0 g0
  obtain ⟨a1, c1, l1, rfl, w1, b1⟩ := wgarg_sl (T := tTp) Try.underlying26 (hval 1 26 v1 rfl rfl) h1 g1
  clear hA0 hval0
  refine (gwalk_of_ct (groupApart_walk w0 b0 w1 b1)).mono fun e W' ⟨he, bel⟩ => ?_
  subst he
  exact ⟨_, rfl, _, _, _, [], _, [], hW', trodAll_mk1 (shut_bool Try.underlying4 _), trodAll_below laidOut bel _ _ _ _ (by kernel_rfl) hA1 (fun x hx => hlt0 x (by simpa using hx)), rfl, bel.frame _, fun h => by cases h⟩

theorem groupApart_over : Rows.groupApartRow.holds Try.pinned (OpenSpec.ofChange Rows.groupApartSpec) :=
  OpenClaim.holds_of_wide 7 Try.f7 rfl rfl rfl rfl rfl rfl rfl ⟨rfl, rfl, rfl, rfl, rfl⟩ rfl rfl rfl rfl rfl (by kernel_rfl) Try.func7 (by show joinedFacts Try.prog 7 Try.f7 Rows.groupApartSpec Rows.groupApartRow = true; unfold joinedFacts; rw [mayEnter_ok, liftsFinal_nil, make_eq]; kernel_rfl)
    (of_decide_eq_true (by kernel_rfl)) (by unfold Func.isWrapper; first | (rw [if_pos (by decide +kernel)]; kernel_rfl) | (rw [if_neg (by decide +kernel)]; exact ⟨rfl, rfl⟩))
    (fun os started H enc _ => groupApart_lifted os started H enc)

theorem groupApart_holds : Rows.GroupApartSaid := groupApart_over
end Go.Proofs.Ytnijbmmghpbmgaa

/-
  ConfDoes: for every input the law returns true and leaves its arguments as they were. Conditions: none.
-/
import Derived.Test.YteimghjhiiffjaaGreatLw
import Derived.Test.YteimghjhiiffjaaGreatCoB
import Derived.Test.YteimghjhiiffjaaGreatL8
set_option linter.all false
namespace Go.Proofs.YteimghjhiiffjaaGreat
open Go.RowKit Go.ChangeShapes Go.WideShapes Go.ChangeAt Go.Wm

set_option maxRecDepth 100000 in
theorem confDoes_lifted (os : Os) (started : os.Started) (H : Type) (enc : TypeId × Value → H) :
    ReturnsInHanded {} Tryz.checked os 3 .any (Rows.confDoesSpec.pre6 enc Tryz.prog Tryz.f3 Rows.confDoesRow.domain false) (Rows.confDoesSpec.post enc Tryz.prog Tryz.f3 false true false false) := by
  refine returnsInHanded_of_change_shaped (C := Tryz.checked) own started (by kernel_rfl) Tryz.func3
    (ChangeSpec.witness6 (enc := enc) (C := Tryz.checked) false ⟨#[], #[.agg #[.int .i64 0, .slice none 0 0, .slice none 0 0, .slice none 0 0, .slice none 0 0], .agg #[.int .i64 0, .string ByteArray.empty, .string ByteArray.empty, .int .i64 0, .int .i64 0, .int .i64 0]], []⟩ 8 (by kernel_rfl) (by kernel_rfl) (by kernel_rfl) (by kernel_rfl)) ?_
  intro W base args ds gs before hval0 hW hcnd hwt _ _
  have hval : ∀ (j : Nat) t v, Tryz.f3.params[j]? = some t → args[j]? = some v → Value.okWide Tryz.prog W .any base t v := hval0
  have hW' := hW
  have hlt0 : ∀ x ∈ before, x.block < W.heap.size := fun x hx => hW.lt x hx
  obtain ⟨p, q, hA0, hV, rfl, hfz, hnd⟩ := hW
  have hA : DataW.TrodAll enc Tryz.prog W 0 (fun _ => true) true Tryz.f3.params.toList args.toList ds p := hA0
  have hA1 := hA
  rw [Tryz.params3] at hA hval
  obtain ⟨v0, vs0, d0, ds0, p0, q0, hargs, rfl, rfl, h0, r0⟩ := trodAll_cons hA
  obtain ⟨v1, vs1, d1, ds1, p1, q1, rfl, rfl, rfl, h1, r1⟩ := trodAll_cons r0
  obtain ⟨rfl, rfl, rfl⟩ := trodAll_nil r1
  obtain rfl : args = #[v0, v1] := by cases args; simp_all
  obtain ⟨rfl, rfl⟩ := trodVars_none hV
  have hwt : (DataW.weightsEach Tryz.prog [27, 29] [d0, d1]).all (fun q => decide (q ≤ reachBytes)) = true := hwt
  obtain ⟨g0, hwt⟩ := weightsEach_cons hwt
  obtain ⟨g1, hwt⟩ := weightsEach_cons hwt
  obtain ⟨l0, x0, rfl, w0, b0⟩ := wgarg_agg (T := tConf) Tryz.underlying27 (hval 0 27 v0 rfl rfl) h0 g0
  obtain ⟨l1, x1, rfl, w1, b1⟩ := wgarg_agg (T := tStep) Tryz.underlying29 (hval 1 29 v1 rfl rfl) h1 g1
  clear hA0 hval0
  refine (gwalk_of_ct (confDoes_walk w0 b0 w1 b1)).mono fun e W' ⟨he, bel⟩ => ?_
  subst he
  exact ⟨_, rfl, _, _, _, [], _, [], hW', trodAll_mk1 (shut_bool Tryz.underlying4 _), trodAll_below laidOut bel _ _ _ _ (by kernel_rfl) hA1 (fun x hx => hlt0 x (by simpa using hx)), rfl, bel.frame _, fun h => by cases h⟩

theorem confDoes_over : Rows.confDoesRow.holds Tryz.pinned (OpenSpec.ofChange Rows.confDoesSpec) :=
  OpenClaim.holds_of_wide 3 Tryz.f3 rfl rfl rfl rfl rfl rfl rfl ⟨rfl, rfl, rfl, rfl, rfl⟩ rfl rfl rfl rfl rfl (by kernel_rfl) Tryz.func3 (by kernel_rfl)
    (of_decide_eq_true (by kernel_rfl)) (by unfold Func.isWrapper; first | (rw [if_pos (by decide +kernel)]; kernel_rfl) | (rw [if_neg (by decide +kernel)]; exact ⟨rfl, rfl⟩))
    (fun os started H enc _ => confDoes_lifted os started H enc)

theorem confDoes_holds : Rows.ConfDoesSaid := confDoes_over
end Go.Proofs.YteimghjhiiffjaaGreat

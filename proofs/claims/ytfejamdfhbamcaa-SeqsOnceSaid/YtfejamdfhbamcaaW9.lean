/-
  SeqsOnce: for every input the law returns true and leaves its arguments as they were. Conditions: none.
-/
import Derived.Test.YtfejamdfhbamcaaLw
import Derived.Test.YtfejamdfhbamcaaCoB
import Derived.Test.YtfejamdfhbamcaaL6
import Derived.Test.YtfejamdfhbamcaaLw3
set_option linter.all false
namespace Go.Proofs.Ytfejamdfhbamcaa
open Go.RowKit Go.ChangeShapes Go.WideShapes Go.ChangeAt Go.Wm

instance rdIntO : Rd Try.prog 3 tInt := rd_int Try.underlying3 (by kernel_rfl)
instance rdIntsO : Rd Try.prog 52 (tSl tInt) := rd_slice Try.underlying52 (by kernel_rfl) (by decide)

set_option maxRecDepth 100000 in
theorem seqsOnce_lifted (os : Os) (started : os.Started) (H : Type) (enc : TypeId × Value → H) :
    ReturnsInHanded {} Try.checked os 11 .any (Rows.seqsOnceSpec.pre6 enc Try.prog Try.f11 Rows.seqsOnceRow.domain false) (Rows.seqsOnceSpec.post enc Try.prog Try.f11 false true false false) := by
  refine returnsInHanded_of_change_shaped (C := Try.checked) own started (by kernel_rfl) Try.func11
    (ChangeSpec.witness6 (enc := enc) (C := Try.checked) false ⟨#[], #[.slice none 0 0, .slice none 0 0], []⟩ 8 (by kernel_rfl) (by kernel_rfl) (by kernel_rfl) (by kernel_rfl)) ?_
  intro W base args ds gs before hval0 hW hcnd hwt _ _
  have hval : ∀ (j : Nat) t v, Try.f11.params[j]? = some t → args[j]? = some v → Value.okWide Try.prog W .any base t v := hval0
  have hW' := hW
  have hlt0 : ∀ x ∈ before, x.block < W.heap.size := fun x hx => hW.lt x hx
  obtain ⟨p, q, hA0, hV, rfl, hfz, hnd⟩ := hW
  have hA : DataW.TrodAll enc Try.prog W 0 (fun _ => true) true Try.f11.params.toList args.toList ds p := hA0
  have hA1 := hA
  rw [Try.params11] at hA hval
  obtain ⟨v0, vs0, d0, ds0, p0, q0, hargs, rfl, rfl, h0, r0⟩ := trodAll_cons hA
  obtain ⟨v1, vs1, d1, ds1, p1, q1, rfl, rfl, rfl, h1, r1⟩ := trodAll_cons r0
  obtain ⟨rfl, rfl, rfl⟩ := trodAll_nil r1
  obtain rfl : args = #[v0, v1] := by cases args; simp_all
  obtain ⟨rfl, rfl⟩ := trodVars_none hV
  have hwt : (DataW.weightsEach Try.prog [35, 52] [d0, d1]).all (fun q => decide (q ≤ reachBytes)) = true := hwt
  obtain ⟨g0, hwt⟩ := weightsEach_cons hwt
  obtain ⟨g1, hwt⟩ := weightsEach_cons hwt
  obtain ⟨a0, c0, l0, rfl, w0, b0⟩ := wgarg_sl (T := tBatch) Try.underlying35 (hval 0 35 v0 rfl rfl) h0 g0
  obtain ⟨a1, c1, l1, rfl, w1⟩ := garg_sl (T := tInt) Try.underlying52 (hval 1 52 v1 rfl rfl) h1
  clear hA0 hval0
  refine (gwalk_of_ct (seqsOnce_walk w0 b0 w1)).mono fun e W' ⟨he, bel⟩ => ?_
  subst he
  exact ⟨_, rfl, _, _, _, [], _, [], hW', trodAll_mk1 (shut_bool Try.underlying4 _), trodAll_below laidOut bel _ _ _ _ (by kernel_rfl) hA1 (fun x hx => hlt0 x (by simpa using hx)), rfl, bel.frame _, fun h => by cases h⟩

theorem seqsOnce_over : Rows.seqsOnceRow.holds Try.pinned (OpenSpec.ofChange Rows.seqsOnceSpec) :=
  OpenClaim.holds_of_wide 11 Try.f11 rfl rfl rfl rfl rfl rfl rfl ⟨rfl, rfl, rfl, rfl, rfl⟩ rfl rfl rfl rfl rfl (by kernel_rfl) Try.func11 (by show joinedFacts Try.prog 11 Try.f11 Rows.seqsOnceSpec Rows.seqsOnceRow = true; unfold joinedFacts; rw [mayEnter_ok, liftsFinal_nil, make_eq]; kernel_rfl)
    (of_decide_eq_true (by kernel_rfl)) (by unfold Func.isWrapper; first | (rw [if_pos (by decide +kernel)]; kernel_rfl) | (rw [if_neg (by decide +kernel)]; exact ⟨rfl, rfl⟩))
    (fun os started H enc _ => seqsOnce_lifted os started H enc)

theorem seqsOnce_holds : Rows.SeqsOnceSaid := seqsOnce_over
end Go.Proofs.Ytfejamdfhbamcaa

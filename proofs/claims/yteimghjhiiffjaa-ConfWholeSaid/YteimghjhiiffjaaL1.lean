/-
  The chapter's example, of the program. Conditions: none.
-/
import Derived.Test.YteimghjhiiffjaaD9
import Derived.Test.YteimghjhiiffjaaMn2
set_option linter.all false
namespace Go.Wm
open Go.RowKit Go.Proofs
def txT : ByteArray := ⟨#[116]⟩
def txMe : ByteArray := ⟨#[109, 101]⟩
def txNo : ByteArray := ⟨#[]⟩
def exL : List Step := [⟨1, txT, txNo, 2, 0, 0⟩, ⟨7, txNo, txT, 0, 1, 0⟩, ⟨5, txMe, txT, 1, 0, 0⟩]
def exC : Conf := ⟨3, [⟨txT, 2, false, 0⟩], [⟨txMe, txT, 1⟩], [], [⟨0, 1, txT⟩]⟩
def exX : Conf := ⟨4, [], [], [], []⟩
set_option maxRecDepth 100000 in
theorem ex_all : allR noConf exL = (exC, 3, 0) := by decide +kernel
theorem ex_do : doC exC ⟨2, txT, txNo, 0, 0, 0⟩ = (exX, 0) := by decide +kernel
theorem ex_goes : goesQ exC ⟨0, 1, txT⟩ = true := by decide +kernel
theorem ex_may : mayQ exC txMe txT 1 = true := by decide +kernel
theorem exL_ok : ∀ s ∈ exL, s.ok := by
  intro s hs
  simp only [exL, List.mem_cons, List.not_mem_nil, or_false] at hs
  rcases hs with rfl | rfl | rfl <;> exact ⟨by unfold I64; decide, by decide, by decide, by unfold I64; decide, by unfold I64; decide, by unfold I64; decide⟩
end Go.Wm
namespace Go.Wm
open Go.RowKit Go.Proofs
attribute [local irreducible] RG CG EG WA Loc Det Alc CT Exit.then Exit.inBlock Code.wp bodyPost
theorem noCf (k : PH) : CfAt k noConf none 0 none 0 none 0 none 0 := (noOwn 0 k).cf
set_option maxHeartbeats 4000000 in
theorem live_ct {k : PH} : CT Try.prog 7 #[] k (fun _ v => v = .bool true) := by
  refine ct_of_body (l := []) Try.func7 rfl Try.ntmps7 (by simp) (fun _ _ _ _ h => h) fun F hF0 hFm => ?_
  repeat (first | refine cg_seq ?_ | refine cg_region ?_ | refine rg_nil ?_ | refine eg_then ?_ | refine qsp ?_)
  refine rs rfl rfl (loc_det rfl (d_lit (cells := noConf.cs none 0 none 0 none 0 none 0) rfl rfl rfl)) ?_
  refine rs rfl rfl (loc_det rfl (d_lit (cells := (⟨1, txT, txNo, 2, 0, 0⟩ : Step).vs) rfl rfl rfl)) ?_
  refine rs rfl rfl (loc_det rfl (d_lit (cells := (⟨7, txNo, txT, 0, 1, 0⟩ : Step).vs) rfl rfl rfl)) ?_
  refine rs rfl rfl (loc_det rfl (d_lit (cells := (⟨5, txMe, txT, 1, 0, 0⟩ : Step).vs) rfl rfl rfl)) ?_
  refine rb rfl rfl rfl rfl (a_slice (cells := exL.flatMap Step.vs) rfl rfl rfl rfl (by kernel_rfl) rfl) ?_; intro b1 k1 hb1 hN1 hle1 hk1
  have hsl : Sl tStep k1 (some ⟨b1, 0, none⟩) 3 exL := sl_flat (xs := exL) hk1 rfl (fun x hx => ⟨rfl, exL_ok x hx⟩) (by simp [maxLen, exL])
  refine rvn rfl rfl rfl rfl rfl rfl rfl (all_ctn (l := exL) (noCf k1) (noConf_upto _) hsl (by decide)) ?_
  rintro N2 k2 v2 hN2 hnew2 hle2 ⟨a0, c0, a1, c1, a2, c2, a3, c3, rfl, HO⟩
  rw [ex_all] at HO ⊢
  repeat (first | refine qsp ?_)
  refine rb rfl rfl rfl rfl (a_alloc rfl) ?_; intro b3 k3 hb3 hN3 hle3 hk3
  refine rw1 (vs := exC.cs a0 c0 a1 c1 a2 c2 a3 c3) rfl rfl rfl rfl rfl rfl rfl hk3 rfl (.inl hN3) ?_ ?_
  · simp [Conf.cs, Value.oneCell']
  intro k4 ht4 hk4
  have hle4 : Le k2 k4 := ht4 k2 hle3 hb3
  have H4 := (HO.le hle4).cf
  have c4 := cells_at (vs := exC.cs a0 c0 a1 c1 a2 c2 a3 c3) hk4 rfl
  repeat (first | refine cg_seq ?_ | refine cg_region ?_ | refine rg_nil ?_ | refine eg_then ?_ | refine qsp ?_ | refine qsg ?_)
  refine rs rfl rfl (loc_det rfl (d_lit (cells := (⟨2, txT, txNo, 0, 0, 0⟩ : Step).vs) rfl rfl rfl)) ?_
  refine rvn rfl rfl rfl rfl rfl rfl rfl (do_ctn (s := ⟨2, txT, txNo, 0, 0, 0⟩) H4 ⟨by decide, by decide, by decide, by decide⟩ ⟨by unfold I64; decide, by decide, by decide, by unfold I64; decide, by unfold I64; decide, by unfold I64; decide⟩) ?_
  rintro N5 k5 v5 hN5 hnew5 hle5 ⟨e0, f0, e1, f1, e2, f2, e3, f3, rfl, HX⟩
  rw [ex_do] at HX ⊢
  repeat (first | refine qsp ?_)
  refine rb rfl rfl rfl rfl (a_alloc rfl) ?_; intro b6 k6 hb6 hN6 hle6 hk6
  refine rw1 (vs := exX.cs e0 f0 e1 f1 e2 f2 e3 f3) rfl rfl rfl rfl rfl rfl rfl hk6 rfl (.inl hN6) ?_ ?_
  · simp [Conf.cs, Value.oneCell']
  intro k7 ht7 hk7
  have hle7 : Le k5 k7 := ht7 k5 hle6 hb6
  have H7 := H4.le (hle5.trans hle7)
  have c4 := c4.le (hle5.trans hle7)
  have c7 := cells_at (vs := exX.cs e0 f0 e1 f1 e2 f2 e3 f3) hk7 rfl
  have hg := goes_ct H7 ⟨0, 1, txT⟩
  rw [ex_goes] at hg
  have hm := may_ct H7 txMe txT 1
  rw [ex_may] at hm
  repeat (first | refine cg_seq ?_ | refine cg_region ?_ | refine rg_nil ?_ | refine eg_then ?_ | refine qsp ?_ | refine qsg ?_)
  refine rs rfl rfl (loc_call_is rfl rfl rfl rfl (hg)) ?_
  repeat (first | refine qsp ?_ | refine qsg ?_)
  refine rs rfl rfl (loc_call_is rfl rfl rfl rfl (hm)) ?_
  obtain ⟨p0, p1, p2, p3, p4⟩ := Conf.parts c7
  have z1 : exX.ways.length = 0 := rfl
  have z2 : exX.rules.length = 0 := rfl
  have z3 : exX.topics.length = 0 := rfl
  repeat (first | refine rg_nil ?_ | refine eg_then ?_ | refine qsp ?_ | refine qsn ?_ | refine qsa ?_ | refine qsl ?_ | refine qsf ?_ | refine cg_ret ?_)
  exact eg_return rfl rfl rfl
end Go.Wm

/-
  How this seat's program was made. Conditions: none.
-/
import Derived.Test.YtfejamdfhbamcaaB1
import Derived.Test.YtfejamdfhbamcaaCoB
import Derived.Test.YtfejamdfhbamcaaG18
import Derived.Test.YtfejamdfhbamcaaG4
import Derived.Test.YtfejamdfhbamcaaG25
import Derived.Test.YtfejamdfhbamcaaDat
import Derived.Test.YtfejamdfhbamcaaRows
set_option linter.all false
namespace Go.Wm
open Go.RowKit Go.Proofs Go.ChangeShapes Go.WideShapes
theorem wf_u8 {n : Int} (h : (Lit.int .u8 n).wf = true) : ∃ m : Nat, n = (m : Int) ∧ m < 256 := by
  simp [Lit.wf, IntKind.min, IntKind.max, IntKind.signed, IntKind.bits] at h
  exact ⟨n.toNat, by omega, by omega⟩
theorem rd_u8 {P : Program} {t : TypeId} (h : P.underlying t = some (.int .u8)) (h1 : P.cellsOf t = 1) : Rd P t tU8 where
  one := h1
  rd := fun hr => by
    obtain ⟨n, rfl, _, hw⟩ := DataW.trod_int h hr
    obtain ⟨m, rfl, hm⟩ := wf_u8 hw
    exact ⟨m, rfl, hm⟩
instance : Rd Try.prog 5 tU8 := rd_u8 Try.underlying5 (by kernel_rfl)
instance : Rd Try.prog 39 (tSl tU8) := rd_slice Try.underlying39 (by kernel_rfl) (by decide)
end Go.Wm
namespace Go.Wm
open Go.RowKit Go.Proofs
theorem saveP_bytes (l : List ProdT) : Bytes (saveP l).1 := by
  unfold saveP
  split
  · exact seal_bytes (prodsL_bytes l)
  · exact fun x hx => by simp at hx
attribute [local irreducible] RG CG EG WA Loc Det Alc CT Exit.then Exit.inBlock Code.wp bodyPost
set_option maxHeartbeats 4000000 in
theorem seqsSaves_walk {k : PH} {a ab : Option Addr} {c cb : Nat} {l : List ProdT} {bs : List Nat} {B0 : Prop} (hl : Sl tProdT k a c l) (_ : B0) (hb : Sl tU8 k ab cb bs) :
    CT Try.prog 6 #[.slice a l.length c, .slice ab bs.length cb] k (fun _ v => v = .bool true) := by
  refine ct_of_body (l := [_, _]) Try.func6 rfl Try.ntmps6 (by simp) (fun _ _ _ _ h => h) fun F hF0 hFm => ?_
  have b1 := hb.cap; have b2 := hb.max; unfold maxLen at b2
  repeat (first | refine cg_seq ?_ | refine cg_region ?_ | refine rg_nil ?_ | refine eg_then ?_ | refine qsp ?_)
  refine rs rfl rfl (loc_call_is rfl rfl rfl rfl (live11_ct)) ?_
  repeat (first | refine cg_seq ?_ | refine cg_region ?_ | refine rg_nil ?_ | refine eg_then ?_ | refine qsp ?_ | refine cg_cond_false rfl ?_ | refine cg_skip ?_)
  refine rs rfl rfl (loc_call_is rfl rfl rfl rfl (fewPd_ct hl)) ?_
  repeat (first | refine cg_seq ?_ | refine cg_region ?_ | refine rg_nil ?_ | refine eg_then ?_ | refine qsp ?_)
  cases q1 : fewPB l
  case false =>
    repeat (first | refine cg_seq ?_ | refine cg_region ?_ | refine rg_nil ?_ | refine eg_then ?_ | refine qsp ?_ | refine qso ?_ | refine cg_cond_true rfl ?_ | refine cg_ret ?_ | refine eg_then_ret ?_)
    exact eg_return rfl rfl rfl
  repeat (first | refine rg_nil ?_ | refine eg_then ?_ | refine qsp ?_ | refine qsn ?_)
  cases q2 : decide ((bs.length : Int) > 2000)
  case true =>
    repeat (first | refine cg_seq ?_ | refine cg_region ?_ | refine rg_nil ?_ | refine eg_then ?_ | refine qsp ?_ | refine cg_cond_true rfl ?_ | refine cg_ret ?_ | refine eg_then_ret ?_)
    exact eg_return rfl rfl rfl
  have q2 := of_decide_eq_false q2
  repeat (first | refine cg_seq ?_ | refine cg_region ?_ | refine eg_then ?_ | refine qsp ?_ | refine cg_cond_false rfl ?_ | refine cg_skip ?_)
  refine rvn rfl rfl rfl rfl rfl rfl rfl (savePd_ctn hl) ?_
  rintro N1 k1 _ hN1 _ hle1 ⟨u1, rfl, row1⟩
  have hl1 := hl.le hle1
  have hb1 := hb.le hle1
  obtain ⟨a1, c1, rfl, s1⟩ := row1.sl (saveP_bytes l)
  repeat (first | refine cg_seq ?_ | refine cg_region ?_ | refine rg_nil ?_ | refine eg_then ?_ | refine qsp ?_)
  refine rvn rfl rfl rfl rfl rfl rfl rfl (refSavePd_ctn hl1) ?_
  rintro N2 k2 _ hN2 _ hle2 ⟨u2, rfl, row2⟩
  obtain ⟨a2, c2, rfl, s2⟩ := row2.sl (saveP_bytes l)
  have hb2 := hb1.le hle2
  have s1 := s1.le hle2
  generalize saveP l = sp at s1 s2 ⊢
  obtain ⟨ys, er⟩ := sp
  dsimp only at s1 s2 ⊢
  repeat (first | refine cg_seq ?_ | refine cg_region ?_ | refine rg_nil ?_ | refine eg_then ?_ | refine qsp ?_)
  refine rvn rfl rfl rfl rfl rfl rfl rfl (loadPd_ctn hb2 (by omega)) ?_
  rintro N3 k3 _ hN3 _ hle3 ⟨u3, rfl, own3⟩
  obtain ⟨a3, c3, rfl, s3⟩ := own3.sl
  have hb3 := hb2.le hle3
  repeat (first | refine cg_seq ?_ | refine cg_region ?_ | refine rg_nil ?_ | refine eg_then ?_ | refine qsp ?_)
  refine rvn rfl rfl rfl rfl rfl rfl rfl (refLoadPd_ctn hb3 (by omega)) ?_
  rintro N4 k4 _ hN4 _ hle4 ⟨u4, rfl, own4⟩
  obtain ⟨a4, c4, rfl, s4⟩ := own4.sl
  have s3 := s3.le hle4
  have s1 := s1.le (hle3.trans hle4)
  have s2 := s2.le (hle3.trans hle4)
  generalize loadP bs = lp at s3 s4 ⊢
  obtain ⟨m, er2⟩ := lp
  dsimp only at s3 s4 ⊢
  repeat (first | refine cg_seq ?_ | refine cg_region ?_ | refine rg_nil ?_ | refine eg_then ?_ | refine qsp ?_)
  refine rs rfl rfl (loc_call_is rfl rfl rfl rfl (samePd_ct s3 s4)) ?_
  rw [decide_eq_true (rfl : m = m)]
  repeat (first | refine cg_seq ?_ | refine cg_region ?_ | refine rg_nil ?_ | refine eg_then ?_ | refine qsp ?_)
  refine rs rfl rfl (loc_det rfl (d_bstr s1 rfl rfl)) ?_
  repeat (first | refine qsp ?_)
  refine rs rfl rfl (loc_det rfl (d_bstr s2 rfl rfl)) ?_
  repeat (first | refine qsp ?_)
  rw [decide_eq_true (rfl : strOf ys = strOf ys)]
  repeat (first | refine qsp ?_)
  rw [show (er == er) = true by simp]
  repeat (first | refine rg_nil ?_ | refine eg_then ?_ | refine qsp ?_ | refine cg_ret ?_)
  rw [show (er2 == er2) = true by simp]
  skip
  exact eg_return rfl rfl rfl
end Go.Wm
namespace Go.Wm
open Go.RowKit Go.Proofs
theorem mayEnter_ok : Try.prog.mayEnter = true := by kernel_rfl
end Go.Wm
namespace Go.Wm
open Go.RowKit Go.Proofs
theorem liftsFinal_nil : Try.prog.liftsFinal = false := by kernel_rfl
end Go.Wm
namespace Go.Wm
open Go.RowKit Go.Proofs
theorem make_eq : Try.prog.make = some (({ program := "", sum := "", func := "", spec := "" } : OpenClaim).make) := by kernel_rfl
end Go.Wm

/-
  How bytes that are handed in read. Conditions: none.
-/
import Derived.Test.YtfejamdfhbamcaaB1
import Derived.Test.YtfejamdfhbamcaaCoB
set_option linter.all false
namespace Go.Wm
open Go.RowKit Go.Proofs Go.ChangeShapes Go.WideShapes
theorem wf_u8 {n : Int} (h : (Lit.int .u8 n).wf = true) : ∃ m : Nat, n = (m : Int) ∧ m < 256 := by
  simp [Lit.wf, IntKind.min, IntKind.max, IntKind.signed, IntKind.bits] at h
  exact ⟨n.toNat, by omega, by omega⟩
theorem rd_u8 {P : Program} {t : TypeId} (h : P.underlying t = some (.int .u8)) (h1 : P.cellsOf t = 1) : Rd P t tU8 where
  one := h1
  rd := fun hr => by
    obtain ⟨n, rfl, _, hw⟩ := DataW.trod_int h hr
    obtain ⟨m, rfl, hm⟩ := wf_u8 hw
    exact ⟨m, rfl, hm⟩
instance : Rd Try.prog 5 tU8 := rd_u8 Try.underlying5 (by kernel_rfl)
instance : Rd Try.prog 39 (tSl tU8) := rd_slice Try.underlying39 (by kernel_rfl) (by decide)
theorem garg_u8 {P : Program} {t : TypeId} (ht : P.underlying t = some (.int .u8)) {H : Type} {enc : TypeId × Value → H} {W : World} {base : Nat} {v : Value} {d : DataW H} {p : List MemPlace} (hv : Value.okWide P W .any base t v) (hr : DataW.Trod enc P W 0 (fun _ => true) true t v d p) :
    ∃ x : Nat, v = .int .u8 (x : Int) ∧ x < 256 := by
  obtain ⟨x, rfl⟩ := okWide_int ht hv
  obtain ⟨n, hn⟩ := hr
  obtain ⟨a, e0, hw⟩ := DataW.trod_int ht hn
  simp [Value.cells] at e0
  subst e0
  obtain ⟨m, rfl, hm⟩ := wf_u8 hw.2
  exact ⟨m, rfl, hm⟩
end Go.Wm

/-
  A call in a region that draws, made with less than is known. Conditions: none beyond those of the law.
-/
import Derived.Test.YtnijbmmghpbmgaaJ3
import Derived.Test.YtnijbmmghpbmgaaN7
set_option linter.all false
namespace Go.Wm
open Go.RowKit
/-- What a call has told that was made with less than is known. -/
def Und (h kq : PH) (φ : PH → Value → Prop) : PH → Value → Prop := fun k v => ∃ k2, Le h k2 ∧ (∀ b o, kq b = some o → k2 b = h b) ∧ Le k2 k ∧ φ k2 v
theorem Und.mono {h kq : PH} {φ : PH → Value → Prop} : (PV.such (Und h kq φ)).Mono := fun k k' v hle ⟨k2, h1, h2, h3, h4⟩ => ⟨k2, h1, h2, h3.trans hle, h4⟩
theorem Und.imp {h kq k : PH} {φ ψ : PH → Value → Prop} {v u : Value} (hu : Und h kq φ k v) (hi : ∀ k, φ k v → ψ k u) : Und h kq ψ k u := by
  obtain ⟨k2, h1, h2, h3, h4⟩ := hu
  exact ⟨k2, h1, h2, h3, hi _ h4⟩
theorem loci_hct {P : Program} {n : Nat} {ops : Array Oper} {o : Oper} {e : Env} {k kq h : PH} {I : PH → World → Prop} {x : Operand} {args : Array Operand} {ats : Array TypeId} {g : FuncId} {first cap : Array Value} {vs : List Value} [FnOk P g] {φ : PH → Value → Prop}
    (hg : wantedE ops e o = some true) (hop : o.op = .call { callee := .value x, args := args, argTypes := ats }) (hx : opv e x = some (.func (.func g) first cap)) (ha : opvs e args.toList = some vs) (hkq : Le kq k) (hle : Le h k) (hct : CT P g (first ++ vs.toArray ++ cap) h φ) : LocI P n ops I o e k (.such (Und h kq φ)) := by
  refine ⟨Und.mono, fun a w k1 hk hs hi _ hl => ?_⟩
  rw [if_pos (wanted_of hl hg)]
  refine ex_enter (run_call hop hx ha (evs_of hl)) ((hct w h (Le.refl _) (hs.mono (hle.trans hk))).mono ?_)
  rintro en w' ⟨v, k2, h1, h2, h3, h4, h5⟩
  have hag' : Agr w.heap.size k1 (fun b => if b < w.heap.size then k1 b else k2 b) := fun b hb => by simp [hb]
  have hsub' : Sub (fun b => if b < w.heap.size then k1 b else k2 b) w' := fun b ob hb => by
    by_cases hbl : b < w.heap.size
    · simp only [hbl, if_true] at hb
      rw [h2.block b hbl]; exact hs b ob hb
    · simp only [hbl, if_false] at hb
      exact h4 b ob hb
  refine ⟨v, h1, fun b => if b < w.heap.size then k1 b else k2 b, h2, hag', hsub', k2, h3.le (hs.mono (hle.trans hk)), fun b o hb => h3 b (hs.lt (hk _ _ (hkq _ _ hb))), fun b ob hb => ?_, h5⟩
  by_cases hbl : b < w.heap.size
  · simp only [hbl, if_true]
    have := h3 b hbl
    rw [this] at hb
    exact (hle.trans hk) b ob hb
  · simp only [hbl, if_false]; exact hb
end Go.Wm

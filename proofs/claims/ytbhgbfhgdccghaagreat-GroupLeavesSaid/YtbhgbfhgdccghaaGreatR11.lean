/-
  The document's Join. Conditions: that what is handed in reads as data.
-/
import Derived.Test.YtbhgbfhgdccghaaGreatK9
import Derived.Test.YtbhgbfhgdccghaaGreatL1
import Derived.Test.YtbhgbfhgdccghaaGreatSto2
set_option linter.all false
namespace Go.Wm
open Go.RowKit Go.Proofs
theorem LocI.imp {P : Program} {n : Nat} {ops : Array Oper} {I : PH → World → Prop} {o : Oper} {e : Env} {k : PH} {φ ψ : PH → Value → Prop} (h : LocI P n ops I o e k (.such φ)) (hm : (PV.such ψ).Mono) (hi : ∀ k v, φ k v → ψ k v) : LocI P n ops I o e k (.such ψ) := by
  refine ⟨hm, fun a w k1 hk hs hI hsz hlo => ?_⟩
  have := h.2 a w k1 hk hs hI hsz hlo
  split
  · rename_i hw
    rw [if_pos hw] at this
    exact this.mono fun v w' ⟨k', g1, g2, g3, g4⟩ => ⟨k', g1, g2, g3, hi _ _ g4⟩
  · rename_i hw
    rw [if_neg hw] at this
    exact hi _ _ this
/-- Told of a heap that lacks a block. -/
def Lk (h : PH) (b : Nat) (φ : PH → Value → Prop) : PH → Value → Prop := fun k v => ∃ k2, Le h k2 ∧ k2 b = none ∧ Le k2 k ∧ φ k2 v
theorem Lk.mono {h : PH} {b : Nat} {φ : PH → Value → Prop} : (PV.such (Lk h b φ)).Mono := fun k k' v hle ⟨k2, h1, h2, h3, h4⟩ => ⟨k2, h1, h2, h3.trans hle, h4⟩
theorem Und.lk {h h2 kq k : PH} {b : Nat} {ob : Obj} {φ : PH → Value → Prop} {v : Value} (hu : Und h2 kq φ k v) (hh : Le h h2) (hb : h2 b = none) (hk : kq b = some ob) : Lk h b φ k v := by
  obtain ⟨k2, h1, h3, h4, h5⟩ := hu
  exact ⟨k2, hh.trans h1, by rw [h3 _ _ hk]; exact hb, h4, h5⟩
theorem loci_lct {P : Program} {n : Nat} {ops : Array Oper} {o : Oper} {e : Env} {k kq h h2 : PH} {b : Nat} {ob : Obj} {I : PH → World → Prop} {x : Operand} {args : Array Operand} {ats : Array TypeId} {g : FuncId} {first cap : Array Value} {vs : List Value} [FnOk P g] {φ : PH → Value → Prop}
    (hg : wantedE ops e o = some true) (hop : o.op = .call { callee := .value x, args := args, argTypes := ats }) (hx : opv e x = some (.func (.func g) first cap)) (ha : opvs e args.toList = some vs) (hh : Le h h2) (hb : h2 b = none) (hkb : kq b = some ob) (hkq : Le kq k) (hle : Le h2 k) (hct : CT P g (first ++ vs.toArray ++ cap) h2 φ) : LocI P n ops I o e k (.such (Lk h b φ)) :=
  (loci_hct hg hop hx ha hkq hle hct).imp Lk.mono fun _ _ hu => hu.lk hh hb hkb
/-- Where ways meet, inside a region, with heaps of their own. -/
theorem meetRJ {P : Program} {F : Fr} {n : Nat} {ops : Array Oper} {rest : List Oper} {Q : Exit → Act → World → Prop} {G : Prop} (J : Env → PH → Prop) (main : (∀ e e' k, J e' k → EnvLe e' e → RG P F n ops Q rest e k) → G) (key : ∀ e k, J e k → RG P F n ops Q rest e k) : G :=
  main fun _ _ _ hj he a w ha hs => key _ _ hj a w (ha.le he) hs
def zM : Member := ⟨⟨#[]⟩, ⟨#[]⟩, [], [], false, 0⟩
/-- A member with topics of its own, and nothing else. -/
def NewM (x : Member) (k : PH) (vs : List Value) : Prop := ∃ au cu, vs = x.cs au cu none 0 ∧ Sl tStr k au cu x.subs
def NewV (x : Member) (k : PH) (v : Value) : Prop := ∃ vs : List Value, v = .agg vs.toArray ∧ NewM x k vs
attribute [local irreducible] RG CG EG WA Loc Det Alc CT Exit.then Exit.inBlock Code.wp bodyPost
end Go.Wm
-- cut by zcut

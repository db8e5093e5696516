/-
  Calls that turn blocks, told that the world has so many blocks at least. Conditions: none beyond those of each law.
-/
import Derived.Test.YtfejamdfhbamcaaCoB
import Derived.Test.YtfejamdfhbamcaaGrw
set_option linter.all false
namespace Go.Wm
variable [Dfr]
open Go.RowKit
def CTMN (P : Program) (f : FuncId) (args : Array Value) (kr : PH) (N : Nat) (M : Nat → Prop) (φ : PH → Value → Prop) : Prop :=
  ∀ w, Sub kr w → N ≤ w.heap.size → Calls P f args w (RetM kr w M φ)
theorem ctmn_of_body {P : Program} {f : FuncId} {fn : Func} {c : Code} {l : List Value} {k : PH} {N : Nat} {M : Nat → Prop} {φ : PH → Value → Prop} (hf : P.funcs[f]? = some fn) (hb : fn.body = some c) {n : Nat} (hn : fn.ntmps = n)
    (hl : l.length ≤ n) (h : ∀ F : Fr, F.k0 = k → F.mu = M → N ≤ F.w0.heap.size → (∀ b o, k b = some o → b < F.w0.heap.size) → CG P F n (bodyPost P fn (RetF F φ)) c (argEnv 0 l) k) (hD : Dfr.ds = [] := by rfl) : CTMN P f l.toArray k N M φ := by
  intro w hs hN
  have hs0 : St ⟨w, k, M⟩ k w := ⟨rfl, rfl, rfl, Nat.le_refl _, fun _ _ _ => rfl, hs, fun _ _ _ => rfl⟩
  subst hn
  refine Calls.mono (calls_of_wp (R := RetF ⟨w, k, M⟩ φ) hf hb (h ⟨w, k, M⟩ rfl rfl hN (fun b o hb => hs.lt hb) _ w (ag_args hl hD) hs0)) ?_
  rintro e w' ⟨v, kc, he, hst, hφ⟩
  exact ⟨v, kc, he, ⟨hst.os, hst.tape, hst.output, hst.size⟩, hst.old, hst.keep, hst.sub, hφ⟩
theorem CTMN.of {P : Program} {f : FuncId} {args : Array Value} {k : PH} {N : Nat} {M : Nat → Prop} {φ : PH → Value → Prop} (h : CTM P f args k M φ) : CTMN P f args k N M φ := fun w hs _ => h w hs
section
variable {P : Program} {F : Fr} {n : Nat} {ops : Array Oper} {Q : Exit → Act → World → Prop} {rest : List Oper} {o : Oper} {e : Env} {k : PH}
theorem rcmn {x : Operand} {args : Array Operand} {ats : Array TypeId} {g : FuncId} {first cap : Array Value} {vs : List Value} [FnOk P g] {N : Nat} {M : Nat → Prop} {φ : PH → Value → Prop} {d : Nat}
    (hd : o.dst = some d) (hf : Nat.blt d n = true) (hdet : det e = true) (hgd : o.guard = none) (hop : o.op = .call { callee := .value x, args := args, argTypes := ats }) (hx : opv e x = some (.func (.func g) first cap)) (ha : opvs e args.toList = some vs)
    (hN : N ≤ F.w0.heap.size) (hct : CTMN P g (first ++ vs.toArray ++ cap) k N M φ) (hM : ∀ b, M b → F.w0.heap.size ≤ b ∨ F.mu b)
    (h : ∀ v k', (∀ h, Le h k → (∀ b, M b → h b = none) → Le h k') → φ k' v → RG P F n ops Q rest ((d, .is v) :: e) k') : RG P F n ops Q (o :: rest) e k := by
  intro a w hag hs
  unfold wpList
  rw [if_pos (by simp [Region.wanted, hgd])]
  refine .inl (ex_enter (run_call hop hx ha (evs_of (ops := ops) (ag_looks hag))) (φ := fun v w' => ∃ k', (∀ h, Le h k → (∀ b, M b → h b = none) → Le h k') ∧ φ k' v ∧ St F k' w') ((hct w hs.sub (Nat.le_trans hN hs.size)).mono ?_) _ _ ?_)
  · rintro en w' ⟨v, k', h1, ⟨h2a, h2b, h2c, h2d⟩, h3, h4, h5, h6⟩
    refine ⟨v, h1, k', fun h' hle hno b ob hb => ?_, h6, ⟨h2a.trans hs.os, h2b.trans hs.tape, h2c.trans hs.output, Nat.le_trans hs.size h2d, fun b hb hm => ?_, h5, fun b hb hm => ?_⟩⟩
    · have hk := hle b ob hb
      have hnm : ¬ M b := fun hm => by rw [hno b hm] at hb; cases hb
      rw [h4 b (hs.sub.lt hk) hnm]
      exact hk
    · have hnm : ¬ M b := fun hm' => (hM b hm').elim (fun h => by omega) hm
      rw [h3 b (Nat.lt_of_lt_of_le hb hs.size) hnm]
      exact hs.old b hb hm
    · have hnm : ¬ M b := fun hm' => (hM b hm').elim (fun h => by omega) hm
      rw [h4 b (Nat.lt_of_lt_of_le hb hs.size) hnm]
      exact hs.keep b hb hm
  · rintro v w' ⟨k', h1, h2, h3⟩
    rw [hd]
    exact h v k' h1 h2 _ _ ((hag.heap (k' := k') hdet).put (d := some d) hf rfl) h3
end
end Go.Wm
namespace Go.Wm
variable [Dfr]
section
variable {P : Program} {F : Fr} {n : Nat} {ops : Array Oper} {Q : Exit → Act → World → Prop} {rest : List Oper} {o : Oper} {e : Env} {k : PH}
variable {kt : TypeId} {α : Type} [DecidableEq α] {enc : α → Value}
end
end Go.Wm
namespace Go.Wm
variable [Dfr]
/-- A new block, in worlds that have so many blocks at least. -/
theorem loci_newN {P : Program} {n N : Nat} {ops : Array Oper} {o : Oper} {e : Env} {k kq : PH} {I : PH → World → Prop} {vf : Nat → Value} {obj : Obj} (hI : ∀ k w, I k w → N ≤ w.heap.size) (hg : wantedE ops e o = some true) (hkq : Le kq k) (h : Alc P e k o vf obj) : LocI P n ops I o e k (.such (NewN N kq vf obj)) := by
  refine ⟨newN_mono, fun a w k1 hk hs hi _ hl => ?_⟩
  rw [if_pos (wanted_of hl hg)]
  exact (ex_value (h a.eval w (evs_of hl) (hs.mono hk))).mono fun u u' ⟨h1, h2⟩ => by
    subst h2
    exact ⟨upd k1 w.heap.size obj, below_alloc _ _, agr_upd (Nat.le_refl _) _, sub_alloc hs _, ⟨_, h1, upd_same _ _ _, (hs.mono (hkq.trans hk)).none (Nat.le_refl _), hI _ _ hi⟩⟩
end Go.Wm
namespace Go.Wm
variable [Dfr]
end Go.Wm

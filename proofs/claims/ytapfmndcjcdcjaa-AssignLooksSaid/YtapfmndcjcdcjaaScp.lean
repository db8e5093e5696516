/-
  A scope through which the run jumps back to one label: what holds at the label, and a measure that each jump lowers. Conditions: none.
-/
import Derived.Test.YtapfmndcjcdcjaaRep
import Derived.ScopeJumps
set_option linter.all false
namespace Go.Wm
open Go.RowKit

section
variable {P : Program} {F : Fr} {n : Nat} {Q : Exit → Act → World → Prop} {e : Env} {k : PH}
/-- What holds at a jump that may have any measure. -/
def AtAny {ι : Type} (F : Fr) (n : Nat) (I : ι → Env → PH → Prop) (a : Act) (w : World) : Prop := ∃ j e k, I j e k ∧ Ag n e k a ∧ St F k w
def AtLess {ι : Type} (F : Fr) (n : Nat) (I : ι → Env → PH → Prop) (μ : ι → Nat) (m : Nat) (a : Act) (w : World) : Prop := ∃ j e k, I j e k ∧ μ j < m ∧ Ag n e k a ∧ St F k w

theorem cg_scope {ι : Type} (I : ι → Env → PH → Prop) (μ : ι → Nat) {c : Code} (l : Nat) (tail : Code) (hf : findLabel c l = some (.seq .skip tail))
    (pass : ∀ i e k, I i e k → CG P F n (Exit.jump l (AtLess F n I μ (μ i)) Q) tail e k)
    (first : (∀ i e0 e k, I i e0 k → EnvLe e0 e → CG P F n (Exit.jump l (AtAny F n I) Q) tail e k) → CG P F n (Exit.jump l (AtAny F n I) Q) c e k) : CG P F n Q (.scope c) e k := by
  have weaken : ∀ i e0 e k, I i e0 k → EnvLe e0 e → CG P F n (Exit.jump l (AtAny F n I) Q) tail e k := by
    intro i e0 e k hI hle a w ha hs
    refine wp_mono (pass i e0 k hI a w (ha.le hle) hs) ?_
    intro ex a' w' h
    cases ex with
    | goto l' =>
      obtain ⟨h1, j, e', k', h2, _, h3, h4⟩ := h
      exact ⟨h1, j, e', k', h2, h3, h4⟩
    | _ => exact h
  intro a w ha hs b ks cs
  have hg : gotoIn l (.inScope c :: ks) = some (.code (.seq .skip tail) :: .inScope c :: ks) := by simp [gotoIn, hf]
  have key : ∀ m i e k a w, μ i = m → I i e k → Ag n e k a → St F k w →
      ∃ ex a' w', Q ex a' w' ∧ Arrives P (lone (b.at a (.code (.seq .skip tail) :: .inScope c :: ks)) cs w) b ks cs ex a' w' := by
    intro m
    induction m using Nat.strongRecOn with
    | _ m ih =>
      intro i e k a w hm hI ha hs
      have hp : (Code.seq .skip tail).wp P (Exit.jump l (AtLess F n I μ (μ i)) Q) a w := wp_seq (wp_skip (pass i e k hI a w ha hs))
      obtain ⟨ex, a₁, w₁, hq, harr⟩ := hp b (.inScope c :: ks) cs
      cases ex with
      | normal => exact ⟨.normal, a₁, w₁, hq, Steps.trans harr (.one step_inScope)⟩
      | exit id => exact ⟨.exit id, a₁, w₁, hq, fun k' hk => harr k' (by simp [exitTo, hk])⟩
      | goto l' =>
        obtain ⟨rfl, j, e', k', hI', hlt, ha', hs'⟩ := hq
        obtain ⟨e₂, a₂, w₂, hq₂, harr₂⟩ := ih (μ j) (hm ▸ hlt) j e' k' a₁ w₁ rfl hI' ha' hs'
        exact ⟨e₂, a₂, w₂, hq₂, .of_steps (harr _ hg) harr₂⟩
      | ret => exact ⟨_, a₁, w₁, hq, harr⟩
      | panic ch => exact ⟨_, a₁, w₁, hq, harr⟩
      | outgrown => exact ⟨_, a₁, w₁, hq, harr⟩
  obtain ⟨ex, a₁, w₁, hq, harr⟩ := first weaken a w ha hs b (.inScope c :: ks) cs
  cases ex with
  | normal => exact ⟨.normal, a₁, w₁, hq, .head step_scope (Steps.trans harr (.one step_inScope))⟩
  | exit id => exact ⟨.exit id, a₁, w₁, hq, fun k' hk => .head step_scope (harr k' (by simp [exitTo, hk]))⟩
  | goto l' =>
    obtain ⟨rfl, j, e', k', hI', ha', hs'⟩ := hq
    obtain ⟨e₂, a₂, w₂, hq₂, harr₂⟩ := key _ j e' k' a₁ w₁ rfl hI' ha' hs'
    exact ⟨e₂, a₂, w₂, hq₂, .of_steps (.head step_scope (harr _ hg)) harr₂⟩
  | ret => exact ⟨_, a₁, w₁, hq, .of_steps (.one step_scope) harr⟩
  | panic ch => exact ⟨_, a₁, w₁, hq, .of_steps (.one step_scope) harr⟩
  | outgrown => exact ⟨_, a₁, w₁, hq, .of_steps (.one step_scope) harr⟩

theorem eg_jump_normal {l : Nat} {J : Act → World → Prop} (h : EG F n (Q .normal) e k) : EG F n (Exit.jump l J Q .normal) e k := h
theorem eg_jump_ret {l : Nat} {J : Act → World → Prop} (h : EG F n (Q .ret) e k) : EG F n (Exit.jump l J Q .ret) e k := h
theorem eg_jump_exit {l id : Nat} {J : Act → World → Prop} (h : EG F n (Q (.exit id)) e k) : EG F n (Exit.jump l J Q (.exit id)) e k := h
theorem eg_jump_goto {ι : Type} {I : ι → Env → PH → Prop} {μ : ι → Nat} {m l : Nat} (j : ι) (e' : Env) (hI : I j e' k) (hm : μ j < m) (hle : EnvLe e' e) : EG F n (Exit.jump l (AtLess F n I μ m) Q (.goto l)) e k :=
  fun _ _ ha hs => ⟨rfl, j, e', k, hI, hm, ha.le hle, hs⟩
end
end Go.Wm

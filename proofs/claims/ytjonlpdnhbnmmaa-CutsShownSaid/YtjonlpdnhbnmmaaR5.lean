/-
  Views, the document's: whether they may be, few, what is stable, whether a transaction is below. Conditions: that what is handed in reads as data.
-/
import Derived.Test.YtjonlpdnhbnmmaaR4
set_option linter.all false
namespace Go.Wm
open Go.RowKit Go.Proofs
attribute [local irreducible] RG CG EG WA Loc Det Alc CT Exit.then Exit.inBlock Code.wp bodyPost

def stableL (l : List View) : List Int := l.map fun v => stabP v.tx v.high
theorem foldMin_I64 {γ : Type} {c : γ → Bool} {f : γ → Int} {a : Int} {l : List γ} (ha : I64 a) (h : ∀ g ∈ l, I64 (f g)) : I64 (foldMin c f a l) :=
  ⟨le_foldMin _ _ _ ha.1 fun g hg _ => (h g hg).1, Int.le_trans (foldMin_le _ _) ha.2⟩
theorem open_ok {k : PH} {a : Option Addr} {c : Nat} {l : List OpenT} (hl : Sl tOpenT k a c l) : ∀ m ∈ l, m.ok := fun m hm => by
  obtain ⟨i, hi, rfl⟩ := List.getElem_of_mem hm
  obtain ⟨_, _, _, _, ⟨_, h⟩, _⟩ := hl.el i l[i] (List.getElem?_eq_getElem hi)
  exact h
theorem stabP_I64 {t : Tx} {h : Int} (hh : I64 h) (ho : ∀ m ∈ t.openV, m.ok) : I64 (stabP t h) := foldMin_I64 hh fun g hg => (ho g hg).2
theorem stableL_I64 {k : PH} {a : Option Addr} {c : Nat} {l : List View} (hl : Sl tView k a c l) : ∀ n ∈ stableL l, I64 n := fun n hn => by
  unfold stableL at hn
  rw [List.mem_map] at hn
  obtain ⟨v, hv, rfl⟩ := hn
  obtain ⟨i, hi, rfl⟩ := List.getElem_of_mem hv
  obtain ⟨_, _, _, _, ⟨_, _, _, _, _, _, _, ⟨so, _, _⟩, hk⟩, _⟩ := hl.el i l[i] (List.getElem?_eq_getElem hi)
  exact stabP_I64 hk.2.2 (open_ok so)

end Go.Wm

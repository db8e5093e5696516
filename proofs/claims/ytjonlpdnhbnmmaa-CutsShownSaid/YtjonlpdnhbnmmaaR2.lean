/-
  Transactions, the document's: whether they may be, and up to where all is decided. Conditions: that what is handed in reads as data.
-/
import Derived.Test.YtjonlpdnhbnmmaaR1
import Derived.Test.YtjonlpdnhbnmmaaCuP
set_option linter.all false
namespace Go.Wm
open Go.RowKit Go.Proofs
attribute [local irreducible] RG CG EG WA Loc Det Alc CT Exit.then Exit.inBlock Code.wp bodyPost

def inO (n : Int) : Bool := decide (0 ≤ n) && decide (n ≤ 1099511627776)
/-- May one that has ended be? -/
def okGone (g : Gone) : Bool := inO g.pid && (decide (0 ≤ g.no) && (decide (g.no ≤ 1048576) && (decide (0 ≤ g.first) && (decide (g.first < g.last) && inO g.last))))
/-- Those that have ended, by rising ends. -/
def Ended (l : List Gone) : Prop := ∀ i, (h : i < l.length) → okGone l[i] = true ∧ (0 < i → l[i - 1].last < l[i].last)
instance (l : List Gone) : Decidable (Ended l) := by unfold Ended; infer_instance
/-- Those that are open, by rising numbers. -/
def Opens (l : List OpenT) : Prop := ∀ i, (h : i < l.length) → (inO l[i].pid && inO l[i].first) = true ∧ (0 < i → l[i - 1].pid < l[i].pid)
instance (l : List OpenT) : Decidable (Opens l) := by unfold Opens; infer_instance
def errOf (b : Bool) (n : Int) : Value := .int .i64 (if b then 0 else n)
def txP (t : Tx) : Bool := decide (Opens t.openV) && (decide (Ended t.gone) && decide (Ended t.done))

end Go.Wm

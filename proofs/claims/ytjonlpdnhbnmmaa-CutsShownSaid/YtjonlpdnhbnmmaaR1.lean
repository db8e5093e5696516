/-
  Names and partitions, the document's. Conditions: that what is handed in reads as data.
-/
import Derived.Test.YtjonlpdnhbnmmaaDat
import Derived.Test.YtjonlpdnhbnmmaaStr
set_option linter.all false
namespace Go.Wm
open Go.RowKit Go.Proofs
attribute [local irreducible] RG CG EG WA Loc Det Alc CT Exit.then Exit.inBlock Code.wp bodyPost

def okB (x : UInt8) : Bool := decide (33 ≤ x.toNat) && decide (x.toNat ≤ 126)
/-- Is a text a name? -/
def isName (s : ByteArray) : Bool := decide (∀ i, (h : i < s.size) → okB s[i] = true) && (decide (1 ≤ s.size) && decide (s.size ≤ 64))
def tpP (t : Tp) : Bool := isName t.topic && (decide (0 ≤ t.part) && (decide (t.part < 6) && (decide (0 ≤ t.home) && decide (t.home < 4))))
def strLt (a b : ByteArray) : Bool := decide (a.data.toList < b.data.toList)
def tpLess (a b : Tp) : Bool := if a.topic ≠ b.topic then strLt a.topic b.topic else if a.part ≠ b.part then decide (a.part < b.part) else decide (a.home < b.home)

end Go.Wm

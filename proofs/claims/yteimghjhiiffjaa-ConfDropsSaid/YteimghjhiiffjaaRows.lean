/-
  No cell of these rows narrows 'for every input' (looked for: loops, veiled, ifaces, maps, wideKeys, modest, calm, conditions, laid).
  DERIVED. THE GIVEN ROWS OF THIS SEAT. 4 by the template 'for every input the law returns true; each argument reads behind the call as it read before'; 0 by the template 'total and deterministic' (their statements: YteimghjhiiffjaaTotals.lean).
  GIVEN WITH THE SEED: the statements are not yours to turn. If you find one false, say at which input.
  Laid BY PROGRAM, IN A SANDBOX (cutbox-rows.mjs): the forced cells as the released guide's own fill.sh prints them over the translation 53083872e74441ab… (all of the seat's roots in one cut). By AI agents, Wed Nov 11 2026. No macro, syntax, notation, axiom, sorry.
-/
import Derived.Test.YteimghjhiiffjaaChecked
import GoSem.Claim
import GoSem.ClaimJoined
import GoSem.ClaimMapViews
import Derived.JoinedTies
import Derived.KernelRfl
namespace Go.Proofs.Yteimghjhiiffjaa
/- THE CELL 'sum', in the pinned program and in every row, IS THE sha256 OF THE DUMP (.gsa) THAT YteimghjhiiffjaaProg.lean LOADS. Nothing in Lean hashes anything: it is a label: what it is worth is what the hold of that sum in a sandbox is worth. -/
noncomputable def Try.pinned : Pinned := { name := "yteimghjhiiffjaa", sum := "53083872e74441abd06234db8e822bb8b16a16dd6ded374245d153f968b307de", checked := Try.checked }
namespace Rows
def none {H : Type} : Left H := { results := [], args := [] }

/-- 'watermeetlaw19.ConfWhole': WHATEVER THE INPUT: true; the input reads as it did. -/
def confWholeSpec : ChangeSpec := { name := "confWhole", fn := fun _ => fun
  | [d1, d2] => { results := [.lit (.bool true)], args := [d1, d2] }
  | _ => none }
def confWholeRow : OpenClaim := { program := "yteimghjhiiffjaa", sum := "53083872e74441abd06234db8e822bb8b16a16dd6ded374245d153f968b307de", func := "watermeet/watermeetlaw19.ConfWhole", spec := "confWhole", inPlace := ["slices.overlaps[watermeet/api.Way]", "slices.overlaps[watermeet/api.Topic]", "slices.overlaps[watermeet/api.Rule]", "slices.overlaps[watermeet/api.Rate]"], unfollowed := true, recurses := true, apart := false }
def ConfWholeSaid : Prop := confWholeRow.holds Try.pinned (OpenSpec.ofChange confWholeSpec)

/-- ITS FALSE NEIGHBOUR: 'it returns false'. Refute it at one input. -/
def confWholeWrong : ChangeSpec := { name := "confWhole", fn := fun _ => fun
  | [d1, d2] => { results := [.lit (.bool false)], args := [d1, d2] }
  | _ => none }
def ConfWholeWrongFalsely : Prop := confWholeRow.holds Try.pinned (OpenSpec.ofChange confWholeWrong)

/-- 'watermeetlaw19.ConfStays': WHATEVER THE INPUT: true; the input reads as it did. -/
def confStaysSpec : ChangeSpec := { name := "confStays", fn := fun _ => fun
  | [d1, d2] => { results := [.lit (.bool true)], args := [d1, d2] }
  | _ => none }
def confStaysRow : OpenClaim := { program := "yteimghjhiiffjaa", sum := "53083872e74441abd06234db8e822bb8b16a16dd6ded374245d153f968b307de", func := "watermeet/watermeetlaw19.ConfStays", spec := "confStays", inPlace := ["slices.overlaps[watermeet/api.Way]", "slices.overlaps[watermeet/api.Topic]", "slices.overlaps[watermeet/api.Rule]", "slices.overlaps[watermeet/api.Rate]"], unfollowed := true, recurses := true, apart := false }
def ConfStaysSaid : Prop := confStaysRow.holds Try.pinned (OpenSpec.ofChange confStaysSpec)

/-- ITS FALSE NEIGHBOUR: 'it returns false'. Refute it at one input. -/
def confStaysWrong : ChangeSpec := { name := "confStays", fn := fun _ => fun
  | [d1, d2] => { results := [.lit (.bool false)], args := [d1, d2] }
  | _ => none }
def ConfStaysWrongFalsely : Prop := confStaysRow.holds Try.pinned (OpenSpec.ofChange confStaysWrong)

/-- 'watermeetlaw19.ConfMays': WHATEVER THE INPUT: true; the input reads as it did. -/
def confMaysSpec : ChangeSpec := { name := "confMays", fn := fun _ => fun
  | [d1, d2, d3] => { results := [.lit (.bool true)], args := [d1, d2, d3] }
  | _ => none }
def confMaysRow : OpenClaim := { program := "yteimghjhiiffjaa", sum := "53083872e74441abd06234db8e822bb8b16a16dd6ded374245d153f968b307de", func := "watermeet/watermeetlaw19.ConfMays", spec := "confMays", inPlace := ["slices.overlaps[watermeet/api.Way]", "slices.overlaps[watermeet/api.Topic]", "slices.overlaps[watermeet/api.Rule]", "slices.overlaps[watermeet/api.Rate]"], unfollowed := true, recurses := true, apart := false }
def ConfMaysSaid : Prop := confMaysRow.holds Try.pinned (OpenSpec.ofChange confMaysSpec)

/-- ITS FALSE NEIGHBOUR: 'it returns false'. Refute it at one input. -/
def confMaysWrong : ChangeSpec := { name := "confMays", fn := fun _ => fun
  | [d1, d2, d3] => { results := [.lit (.bool false)], args := [d1, d2, d3] }
  | _ => none }
def ConfMaysWrongFalsely : Prop := confMaysRow.holds Try.pinned (OpenSpec.ofChange confMaysWrong)

/-- 'watermeetlaw19.ConfDrops': WHATEVER THE INPUT: true; the input reads as it did. -/
def confDropsSpec : ChangeSpec := { name := "confDrops", fn := fun _ => fun
  | [d1, d2, d3, d4] => { results := [.lit (.bool true)], args := [d1, d2, d3, d4] }
  | _ => none }
def confDropsRow : OpenClaim := { program := "yteimghjhiiffjaa", sum := "53083872e74441abd06234db8e822bb8b16a16dd6ded374245d153f968b307de", func := "watermeet/watermeetlaw19.ConfDrops", spec := "confDrops", inPlace := ["slices.overlaps[watermeet/api.Way]", "slices.overlaps[watermeet/api.Topic]", "slices.overlaps[watermeet/api.Rule]", "slices.overlaps[watermeet/api.Rate]"], unfollowed := true, recurses := true, apart := false }
def ConfDropsSaid : Prop := confDropsRow.holds Try.pinned (OpenSpec.ofChange confDropsSpec)

/-- ITS FALSE NEIGHBOUR: 'it returns false'. Refute it at one input. -/
def confDropsWrong : ChangeSpec := { name := "confDrops", fn := fun _ => fun
  | [d1, d2, d3, d4] => { results := [.lit (.bool false)], args := [d1, d2, d3, d4] }
  | _ => none }
def ConfDropsWrongFalsely : Prop := confDropsRow.holds Try.pinned (OpenSpec.ofChange confDropsWrong)

/- THE SECOND FORM. 'bulk': how many values and letters a reading holds, each counted each time it is reached (what is shared counts as often as it is met; a slice's spare places count too). A statement '..UptoSaid' is the law's where the arguments, and the package variables that the reading takes, are together of bulk at most 1048576: NARROWER than '..Said'. Prove '..Said' where nothing that the law and all that it calls make is longer than what came in: it says more and counts as full. Else prove '..UptoSaid'. A law counts once. -/
mutual
def uptoBulk {H : Type} : DataW H → Nat
  | .lit (.string bytes) => bytes.length + 1
  | .lit _ => 1
  | .nil => 1
  | .ptr d => uptoBulk d + 1
  | .slice elems spare => uptoBulkAll elems + uptoBulkAll spare + 1
  | .agg parts => uptoBulkAll parts + 1
  | .iface _ d => uptoBulk d + 1
  | .map entries => uptoBulkEntries entries + 1
  | .held _ => 1
def uptoBulkAll {H : Type} : List (DataW H) → Nat
  | [] => 0
  | d :: r => uptoBulk d + uptoBulkAll r
def uptoBulkEntries {H : Type} : List (Lit × DataW H) → Nat
  | [] => 0
  | x :: r => uptoBulkEntry x + uptoBulkEntries r
def uptoBulkEntry {H : Type} : Lit × DataW H → Nat
  | (.string bytes, d) => bytes.length + uptoBulk d + 1
  | (_, d) => uptoBulk d + 1
 end
def uptoSmall : (H : Type) → List (DataW H) → Bool := fun _ ds => decide (uptoBulkAll ds ≤ 1048576)
def OpenSpec.upto (s : _root_.Go.ChangeSpec) : _root_.Go.OpenSpec := { _root_.Go.OpenSpec.ofChange s with cond := some uptoSmall }

/-- 'watermeetlaw19.ConfWhole', WHERE WHAT IT READS IS OF BULK AT MOST 1048576: true; the input reads as it did. -/
def confWholeUptoRow : OpenClaim := { program := "yteimghjhiiffjaa", sum := "53083872e74441abd06234db8e822bb8b16a16dd6ded374245d153f968b307de", func := "watermeet/watermeetlaw19.ConfWhole", spec := "confWhole", inPlace := ["slices.overlaps[watermeet/api.Way]", "slices.overlaps[watermeet/api.Topic]", "slices.overlaps[watermeet/api.Rule]", "slices.overlaps[watermeet/api.Rate]"], unfollowed := true, recurses := true, apart := false, narrowed := true }
def ConfWholeUptoSaid : Prop := confWholeUptoRow.holds Try.pinned (OpenSpec.upto confWholeSpec)

/-- 'watermeetlaw19.ConfStays', WHERE WHAT IT READS IS OF BULK AT MOST 1048576: true; the input reads as it did. -/
def confStaysUptoRow : OpenClaim := { program := "yteimghjhiiffjaa", sum := "53083872e74441abd06234db8e822bb8b16a16dd6ded374245d153f968b307de", func := "watermeet/watermeetlaw19.ConfStays", spec := "confStays", inPlace := ["slices.overlaps[watermeet/api.Way]", "slices.overlaps[watermeet/api.Topic]", "slices.overlaps[watermeet/api.Rule]", "slices.overlaps[watermeet/api.Rate]"], unfollowed := true, recurses := true, apart := false, narrowed := true }
def ConfStaysUptoSaid : Prop := confStaysUptoRow.holds Try.pinned (OpenSpec.upto confStaysSpec)

/-- 'watermeetlaw19.ConfMays', WHERE WHAT IT READS IS OF BULK AT MOST 1048576: true; the input reads as it did. -/
def confMaysUptoRow : OpenClaim := { program := "yteimghjhiiffjaa", sum := "53083872e74441abd06234db8e822bb8b16a16dd6ded374245d153f968b307de", func := "watermeet/watermeetlaw19.ConfMays", spec := "confMays", inPlace := ["slices.overlaps[watermeet/api.Way]", "slices.overlaps[watermeet/api.Topic]", "slices.overlaps[watermeet/api.Rule]", "slices.overlaps[watermeet/api.Rate]"], unfollowed := true, recurses := true, apart := false, narrowed := true }
def ConfMaysUptoSaid : Prop := confMaysUptoRow.holds Try.pinned (OpenSpec.upto confMaysSpec)

/-- 'watermeetlaw19.ConfDrops', WHERE WHAT IT READS IS OF BULK AT MOST 1048576: true; the input reads as it did. -/
def confDropsUptoRow : OpenClaim := { program := "yteimghjhiiffjaa", sum := "53083872e74441abd06234db8e822bb8b16a16dd6ded374245d153f968b307de", func := "watermeet/watermeetlaw19.ConfDrops", spec := "confDrops", inPlace := ["slices.overlaps[watermeet/api.Way]", "slices.overlaps[watermeet/api.Topic]", "slices.overlaps[watermeet/api.Rule]", "slices.overlaps[watermeet/api.Rate]"], unfollowed := true, recurses := true, apart := false, narrowed := true }
def ConfDropsUptoSaid : Prop := confDropsUptoRow.holds Try.pinned (OpenSpec.upto confDropsSpec)

end Rows
end Go.Proofs.Yteimghjhiiffjaa

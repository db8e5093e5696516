/-
  No cell of these rows narrows 'for every input' (looked for: loops, veiled, ifaces, maps, wideKeys, modest, calm, conditions, laid).
  DERIVED. THE GIVEN ROWS OF THIS SEAT. 15 by the template 'for every input the law returns true; each argument reads behind the call as it read before'; 0 by the template 'total and deterministic' (their statements: YtjonlpdnhbnmmaaTotals.lean).
  GIVEN WITH THE SEED: the statements are not yours to turn. If you find one false, say at which input.
  Laid BY PROGRAM, IN A SANDBOX (cutbox-rows.mjs): the forced cells as the released guide's own fill.sh prints them over the translation 94eb3b33d14b837a… (all of the seat's roots in one cut). By AI agents, Wed Nov 11 2026. No macro, syntax, notation, axiom, sorry.
-/
import Derived.Test.YtjonlpdnhbnmmaaChecked
import GoSem.Claim
import GoSem.ClaimJoined
import GoSem.ClaimMapViews
import Derived.JoinedTies
import Derived.KernelRfl
namespace Go.Proofs.Ytjonlpdnhbnmmaa
/- THE CELL 'sum', in the pinned program and in every row, IS THE sha256 OF THE DUMP (.gsa) THAT YtjonlpdnhbnmmaaProg.lean LOADS. Nothing in Lean hashes anything: it is a label: what it is worth is what the hold of that sum in a sandbox is worth. -/
noncomputable def Try.pinned : Pinned := { name := "ytjonlpdnhbnmmaa", sum := "94eb3b33d14b837a189eca909395d89c1d3a1cfa0b61e007cbdaa146113d6a3e", checked := Try.checked }
namespace Rows
def none {H : Type} : Left H := { results := [], args := [] }

/-- 'watermeetlaw27.CutsCut': WHATEVER THE INPUT: true; the input reads as it did. -/
def cutsCutSpec : ChangeSpec := { name := "cutsCut", fn := fun _ => fun
  | [d1, d2] => { results := [.lit (.bool true)], args := [d1, d2] }
  | _ => none }
def cutsCutRow : OpenClaim := { program := "ytjonlpdnhbnmmaa", sum := "94eb3b33d14b837a189eca909395d89c1d3a1cfa0b61e007cbdaa146113d6a3e", func := "watermeet/watermeetlaw27.CutsCut", spec := "cutsCut", inPlace := ["internal/bytealg.abigen_runtime_cmpstring"], unfollowed := true, recurses := true, plainKeys := false, apart := false }
def CutsCutSaid : Prop := cutsCutRow.holds Try.pinned (OpenSpec.ofChange cutsCutSpec)

/-- ITS FALSE NEIGHBOUR: 'it returns false'. Refute it at one input. -/
def cutsCutWrong : ChangeSpec := { name := "cutsCut", fn := fun _ => fun
  | [d1, d2] => { results := [.lit (.bool false)], args := [d1, d2] }
  | _ => none }
def CutsCutWrongFalsely : Prop := cutsCutRow.holds Try.pinned (OpenSpec.ofChange cutsCutWrong)

/-- 'watermeetlaw27.CutsMarks': WHATEVER THE INPUT: true; the input reads as it did. -/
def cutsMarksSpec : ChangeSpec := { name := "cutsMarks", fn := fun _ => fun
  | [d1, d2, d3] => { results := [.lit (.bool true)], args := [d1, d2, d3] }
  | _ => none }
def cutsMarksRow : OpenClaim := { program := "ytjonlpdnhbnmmaa", sum := "94eb3b33d14b837a189eca909395d89c1d3a1cfa0b61e007cbdaa146113d6a3e", func := "watermeet/watermeetlaw27.CutsMarks", spec := "cutsMarks", inPlace := ["internal/bytealg.abigen_runtime_cmpstring"], unfollowed := true, recurses := true, plainKeys := false, apart := false }
def CutsMarksSaid : Prop := cutsMarksRow.holds Try.pinned (OpenSpec.ofChange cutsMarksSpec)

/-- ITS FALSE NEIGHBOUR: 'it returns false'. Refute it at one input. -/
def cutsMarksWrong : ChangeSpec := { name := "cutsMarks", fn := fun _ => fun
  | [d1, d2, d3] => { results := [.lit (.bool false)], args := [d1, d2, d3] }
  | _ => none }
def CutsMarksWrongFalsely : Prop := cutsMarksRow.holds Try.pinned (OpenSpec.ofChange cutsMarksWrong)

/-- 'watermeetlaw27.CutsGreatest': WHATEVER THE INPUT: true; the input reads as it did. -/
def cutsGreatestSpec : ChangeSpec := { name := "cutsGreatest", fn := fun _ => fun
  | [d1, d2] => { results := [.lit (.bool true)], args := [d1, d2] }
  | _ => none }
def cutsGreatestRow : OpenClaim := { program := "ytjonlpdnhbnmmaa", sum := "94eb3b33d14b837a189eca909395d89c1d3a1cfa0b61e007cbdaa146113d6a3e", func := "watermeet/watermeetlaw27.CutsGreatest", spec := "cutsGreatest", inPlace := ["internal/bytealg.abigen_runtime_cmpstring"], unfollowed := true, recurses := true, plainKeys := false, apart := false }
def CutsGreatestSaid : Prop := cutsGreatestRow.holds Try.pinned (OpenSpec.ofChange cutsGreatestSpec)

/-- ITS FALSE NEIGHBOUR: 'it returns false'. Refute it at one input. -/
def cutsGreatestWrong : ChangeSpec := { name := "cutsGreatest", fn := fun _ => fun
  | [d1, d2] => { results := [.lit (.bool false)], args := [d1, d2] }
  | _ => none }
def CutsGreatestWrongFalsely : Prop := cutsGreatestRow.holds Try.pinned (OpenSpec.ofChange cutsGreatestWrong)

/-- 'watermeetlaw27.CutsLesser': WHATEVER THE INPUT: true; the input reads as it did. -/
def cutsLesserSpec : ChangeSpec := { name := "cutsLesser", fn := fun _ => fun
  | [d1, d2, d3] => { results := [.lit (.bool true)], args := [d1, d2, d3] }
  | _ => none }
def cutsLesserRow : OpenClaim := { program := "ytjonlpdnhbnmmaa", sum := "94eb3b33d14b837a189eca909395d89c1d3a1cfa0b61e007cbdaa146113d6a3e", func := "watermeet/watermeetlaw27.CutsLesser", spec := "cutsLesser", inPlace := ["internal/bytealg.abigen_runtime_cmpstring"], unfollowed := true, recurses := true, plainKeys := false, apart := false }
def CutsLesserSaid : Prop := cutsLesserRow.holds Try.pinned (OpenSpec.ofChange cutsLesserSpec)

/-- ITS FALSE NEIGHBOUR: 'it returns false'. Refute it at one input. -/
def cutsLesserWrong : ChangeSpec := { name := "cutsLesser", fn := fun _ => fun
  | [d1, d2, d3] => { results := [.lit (.bool false)], args := [d1, d2, d3] }
  | _ => none }
def CutsLesserWrongFalsely : Prop := cutsLesserRow.holds Try.pinned (OpenSpec.ofChange cutsLesserWrong)

/-- 'watermeetlaw27.CutsHigher': WHATEVER THE INPUT: true; the input reads as it did. -/
def cutsHigherSpec : ChangeSpec := { name := "cutsHigher", fn := fun _ => fun
  | [d1, d2, d3] => { results := [.lit (.bool true)], args := [d1, d2, d3] }
  | _ => none }
def cutsHigherRow : OpenClaim := { program := "ytjonlpdnhbnmmaa", sum := "94eb3b33d14b837a189eca909395d89c1d3a1cfa0b61e007cbdaa146113d6a3e", func := "watermeet/watermeetlaw27.CutsHigher", spec := "cutsHigher", inPlace := ["internal/bytealg.abigen_runtime_cmpstring"], unfollowed := true, recurses := true, plainKeys := false, apart := false }
def CutsHigherSaid : Prop := cutsHigherRow.holds Try.pinned (OpenSpec.ofChange cutsHigherSpec)

/-- ITS FALSE NEIGHBOUR: 'it returns false'. Refute it at one input. -/
def cutsHigherWrong : ChangeSpec := { name := "cutsHigher", fn := fun _ => fun
  | [d1, d2, d3] => { results := [.lit (.bool false)], args := [d1, d2, d3] }
  | _ => none }
def CutsHigherWrongFalsely : Prop := cutsHigherRow.holds Try.pinned (OpenSpec.ofChange cutsHigherWrong)

/-- 'watermeetlaw27.CutsOrder': WHATEVER THE INPUT: true; the input reads as it did. -/
def cutsOrderSpec : ChangeSpec := { name := "cutsOrder", fn := fun _ => fun
  | [d1, d2, d3] => { results := [.lit (.bool true)], args := [d1, d2, d3] }
  | _ => none }
def cutsOrderRow : OpenClaim := { program := "ytjonlpdnhbnmmaa", sum := "94eb3b33d14b837a189eca909395d89c1d3a1cfa0b61e007cbdaa146113d6a3e", func := "watermeet/watermeetlaw27.CutsOrder", spec := "cutsOrder", inPlace := ["internal/bytealg.abigen_runtime_cmpstring"], unfollowed := true, recurses := true, plainKeys := false, apart := false }
def CutsOrderSaid : Prop := cutsOrderRow.holds Try.pinned (OpenSpec.ofChange cutsOrderSpec)

/-- ITS FALSE NEIGHBOUR: 'it returns false'. Refute it at one input. -/
def cutsOrderWrong : ChangeSpec := { name := "cutsOrder", fn := fun _ => fun
  | [d1, d2, d3] => { results := [.lit (.bool false)], args := [d1, d2, d3] }
  | _ => none }
def CutsOrderWrongFalsely : Prop := cutsOrderRow.holds Try.pinned (OpenSpec.ofChange cutsOrderWrong)

/-- 'watermeetlaw27.CutsShown': WHATEVER THE INPUT: true; the input reads as it did. -/
def cutsShownSpec : ChangeSpec := { name := "cutsShown", fn := fun _ => fun
  | [d1, d2, d3] => { results := [.lit (.bool true)], args := [d1, d2, d3] }
  | _ => none }
def cutsShownRow : OpenClaim := { program := "ytjonlpdnhbnmmaa", sum := "94eb3b33d14b837a189eca909395d89c1d3a1cfa0b61e007cbdaa146113d6a3e", func := "watermeet/watermeetlaw27.CutsShown", spec := "cutsShown", inPlace := ["internal/bytealg.abigen_runtime_cmpstring"], unfollowed := true, recurses := true, plainKeys := false, apart := false }
def CutsShownSaid : Prop := cutsShownRow.holds Try.pinned (OpenSpec.ofChange cutsShownSpec)

/-- ITS FALSE NEIGHBOUR: 'it returns false'. Refute it at one input. -/
def cutsShownWrong : ChangeSpec := { name := "cutsShown", fn := fun _ => fun
  | [d1, d2, d3] => { results := [.lit (.bool false)], args := [d1, d2, d3] }
  | _ => none }
def CutsShownWrongFalsely : Prop := cutsShownRow.holds Try.pinned (OpenSpec.ofChange cutsShownWrong)

/-- 'watermeetlaw12.TxnsPut': WHATEVER THE INPUT: true; the input reads as it did. -/
def txnsPutSpec : ChangeSpec := { name := "txnsPut", fn := fun _ => fun
  | [d1, d2] => { results := [.lit (.bool true)], args := [d1, d2] }
  | _ => none }
def txnsPutRow : OpenClaim := { program := "ytjonlpdnhbnmmaa", sum := "94eb3b33d14b837a189eca909395d89c1d3a1cfa0b61e007cbdaa146113d6a3e", func := "watermeet/watermeetlaw12.TxnsPut", spec := "txnsPut", inPlace := ["slices.overlaps[watermeet/api.Open]"], unfollowed := true, recurses := true, plainKeys := false, apart := false }
def TxnsPutSaid : Prop := txnsPutRow.holds Try.pinned (OpenSpec.ofChange txnsPutSpec)

/-- ITS FALSE NEIGHBOUR: 'it returns false'. Refute it at one input. -/
def txnsPutWrong : ChangeSpec := { name := "txnsPut", fn := fun _ => fun
  | [d1, d2] => { results := [.lit (.bool false)], args := [d1, d2] }
  | _ => none }
def TxnsPutWrongFalsely : Prop := txnsPutRow.holds Try.pinned (OpenSpec.ofChange txnsPutWrong)

/-- 'watermeetlaw12.TxnsWhole': WHATEVER THE INPUT: true; the input reads as it did. -/
def txnsWholeSpec : ChangeSpec := { name := "txnsWhole", fn := fun _ => fun
  | [d1, d2] => { results := [.lit (.bool true)], args := [d1, d2] }
  | _ => none }
def txnsWholeRow : OpenClaim := { program := "ytjonlpdnhbnmmaa", sum := "94eb3b33d14b837a189eca909395d89c1d3a1cfa0b61e007cbdaa146113d6a3e", func := "watermeet/watermeetlaw12.TxnsWhole", spec := "txnsWhole", inPlace := ["slices.overlaps[watermeet/api.Open]"], unfollowed := true, recurses := true, plainKeys := false, apart := false }
def TxnsWholeSaid : Prop := txnsWholeRow.holds Try.pinned (OpenSpec.ofChange txnsWholeSpec)

/-- ITS FALSE NEIGHBOUR: 'it returns false'. Refute it at one input. -/
def txnsWholeWrong : ChangeSpec := { name := "txnsWhole", fn := fun _ => fun
  | [d1, d2] => { results := [.lit (.bool false)], args := [d1, d2] }
  | _ => none }
def TxnsWholeWrongFalsely : Prop := txnsWholeRow.holds Try.pinned (OpenSpec.ofChange txnsWholeWrong)

/-- 'watermeetlaw12.TxnsStep': WHATEVER THE INPUT: true; the input reads as it did. -/
def txnsStepSpec : ChangeSpec := { name := "txnsStep", fn := fun _ => fun
  | [d1, d2] => { results := [.lit (.bool true)], args := [d1, d2] }
  | _ => none }
def txnsStepRow : OpenClaim := { program := "ytjonlpdnhbnmmaa", sum := "94eb3b33d14b837a189eca909395d89c1d3a1cfa0b61e007cbdaa146113d6a3e", func := "watermeet/watermeetlaw12.TxnsStep", spec := "txnsStep", inPlace := ["slices.overlaps[watermeet/api.Open]"], unfollowed := true, recurses := true, plainKeys := false, apart := false }
def TxnsStepSaid : Prop := txnsStepRow.holds Try.pinned (OpenSpec.ofChange txnsStepSpec)

/-- ITS FALSE NEIGHBOUR: 'it returns false'. Refute it at one input. -/
def txnsStepWrong : ChangeSpec := { name := "txnsStep", fn := fun _ => fun
  | [d1, d2] => { results := [.lit (.bool false)], args := [d1, d2] }
  | _ => none }
def TxnsStepWrongFalsely : Prop := txnsStepRow.holds Try.pinned (OpenSpec.ofChange txnsStepWrong)

/-- 'watermeetlaw12.TxnsEnd': WHATEVER THE INPUT: true; the input reads as it did. -/
def txnsEndSpec : ChangeSpec := { name := "txnsEnd", fn := fun _ => fun
  | [d1, d2, d3, d4, d5] => { results := [.lit (.bool true)], args := [d1, d2, d3, d4, d5] }
  | _ => none }
def txnsEndRow : OpenClaim := { program := "ytjonlpdnhbnmmaa", sum := "94eb3b33d14b837a189eca909395d89c1d3a1cfa0b61e007cbdaa146113d6a3e", func := "watermeet/watermeetlaw12.TxnsEnd", spec := "txnsEnd", inPlace := ["slices.overlaps[watermeet/api.Open]"], unfollowed := true, recurses := true, plainKeys := false, apart := false }
def TxnsEndSaid : Prop := txnsEndRow.holds Try.pinned (OpenSpec.ofChange txnsEndSpec)

/-- ITS FALSE NEIGHBOUR: 'it returns false'. Refute it at one input. -/
def txnsEndWrong : ChangeSpec := { name := "txnsEnd", fn := fun _ => fun
  | [d1, d2, d3, d4, d5] => { results := [.lit (.bool false)], args := [d1, d2, d3, d4, d5] }
  | _ => none }
def TxnsEndWrongFalsely : Prop := txnsEndRow.holds Try.pinned (OpenSpec.ofChange txnsEndWrong)

/-- 'watermeetlaw12.TxnsStable': WHATEVER THE INPUT: true; the input reads as it did. -/
def txnsStableSpec : ChangeSpec := { name := "txnsStable", fn := fun _ => fun
  | [d1, d2] => { results := [.lit (.bool true)], args := [d1, d2] }
  | _ => none }
def txnsStableRow : OpenClaim := { program := "ytjonlpdnhbnmmaa", sum := "94eb3b33d14b837a189eca909395d89c1d3a1cfa0b61e007cbdaa146113d6a3e", func := "watermeet/watermeetlaw12.TxnsStable", spec := "txnsStable", inPlace := ["slices.overlaps[watermeet/api.Open]"], unfollowed := true, recurses := true, plainKeys := false, apart := false }
def TxnsStableSaid : Prop := txnsStableRow.holds Try.pinned (OpenSpec.ofChange txnsStableSpec)

/-- ITS FALSE NEIGHBOUR: 'it returns false'. Refute it at one input. -/
def txnsStableWrong : ChangeSpec := { name := "txnsStable", fn := fun _ => fun
  | [d1, d2] => { results := [.lit (.bool false)], args := [d1, d2] }
  | _ => none }
def TxnsStableWrongFalsely : Prop := txnsStableRow.holds Try.pinned (OpenSpec.ofChange txnsStableWrong)

/-- 'watermeetlaw12.TxnsRow': WHATEVER THE INPUT: true; the input reads as it did. -/
def txnsRowSpec : ChangeSpec := { name := "txnsRow", fn := fun _ => fun
  | [d] => { results := [.lit (.bool true)], args := [d] }
  | _ => none }
def txnsRowRow : OpenClaim := { program := "ytjonlpdnhbnmmaa", sum := "94eb3b33d14b837a189eca909395d89c1d3a1cfa0b61e007cbdaa146113d6a3e", func := "watermeet/watermeetlaw12.TxnsRow", spec := "txnsRow", inPlace := ["slices.overlaps[watermeet/api.Open]"], unfollowed := true, recurses := true, plainKeys := false, apart := false }
def TxnsRowSaid : Prop := txnsRowRow.holds Try.pinned (OpenSpec.ofChange txnsRowSpec)

/-- ITS FALSE NEIGHBOUR: 'it returns false'. Refute it at one input. -/
def txnsRowWrong : ChangeSpec := { name := "txnsRow", fn := fun _ => fun
  | [d] => { results := [.lit (.bool false)], args := [d] }
  | _ => none }
def TxnsRowWrongFalsely : Prop := txnsRowRow.holds Try.pinned (OpenSpec.ofChange txnsRowWrong)

/-- 'watermeetlaw12.TxnsHidden': WHATEVER THE INPUT: true; the input reads as it did. -/
def txnsHiddenSpec : ChangeSpec := { name := "txnsHidden", fn := fun _ => fun
  | [d1, d2, d3] => { results := [.lit (.bool true)], args := [d1, d2, d3] }
  | _ => none }
def txnsHiddenRow : OpenClaim := { program := "ytjonlpdnhbnmmaa", sum := "94eb3b33d14b837a189eca909395d89c1d3a1cfa0b61e007cbdaa146113d6a3e", func := "watermeet/watermeetlaw12.TxnsHidden", spec := "txnsHidden", inPlace := ["slices.overlaps[watermeet/api.Open]"], unfollowed := true, recurses := true, plainKeys := false, apart := false }
def TxnsHiddenSaid : Prop := txnsHiddenRow.holds Try.pinned (OpenSpec.ofChange txnsHiddenSpec)

/-- ITS FALSE NEIGHBOUR: 'it returns false'. Refute it at one input. -/
def txnsHiddenWrong : ChangeSpec := { name := "txnsHidden", fn := fun _ => fun
  | [d1, d2, d3] => { results := [.lit (.bool false)], args := [d1, d2, d3] }
  | _ => none }
def TxnsHiddenWrongFalsely : Prop := txnsHiddenRow.holds Try.pinned (OpenSpec.ofChange txnsHiddenWrong)

/-- 'watermeetlaw12.TxnsShown': WHATEVER THE INPUT: true; the input reads as it did. -/
def txnsShownSpec : ChangeSpec := { name := "txnsShown", fn := fun _ => fun
  | [d1, d2, d3, d4] => { results := [.lit (.bool true)], args := [d1, d2, d3, d4] }
  | _ => none }
def txnsShownRow : OpenClaim := { program := "ytjonlpdnhbnmmaa", sum := "94eb3b33d14b837a189eca909395d89c1d3a1cfa0b61e007cbdaa146113d6a3e", func := "watermeet/watermeetlaw12.TxnsShown", spec := "txnsShown", inPlace := ["slices.overlaps[watermeet/api.Open]"], unfollowed := true, recurses := true, plainKeys := false, apart := false }
def TxnsShownSaid : Prop := txnsShownRow.holds Try.pinned (OpenSpec.ofChange txnsShownSpec)

/-- ITS FALSE NEIGHBOUR: 'it returns false'. Refute it at one input. -/
def txnsShownWrong : ChangeSpec := { name := "txnsShown", fn := fun _ => fun
  | [d1, d2, d3, d4] => { results := [.lit (.bool false)], args := [d1, d2, d3, d4] }
  | _ => none }
def TxnsShownWrongFalsely : Prop := txnsShownRow.holds Try.pinned (OpenSpec.ofChange txnsShownWrong)

/- THE SECOND FORM. 'bulk': how many values and letters a reading holds, each counted each time it is reached (what is shared counts as often as it is met; a slice's spare places count too). A statement '..UptoSaid' is the law's where the arguments, and the package variables that the reading takes, are together of bulk at most 1048576: NARROWER than '..Said'. Prove '..Said' where nothing that the law and all that it calls make is longer than what came in: it says more and counts as full. Else prove '..UptoSaid'. A law counts once. -/
mutual
def uptoBulk {H : Type} : DataW H → Nat
  | .lit (.string bytes) => bytes.length + 1
  | .lit _ => 1
  | .nil => 1
  | .ptr d => uptoBulk d + 1
  | .slice elems spare => uptoBulkAll elems + uptoBulkAll spare + 1
  | .agg parts => uptoBulkAll parts + 1
  | .iface _ d => uptoBulk d + 1
  | .map entries => uptoBulkEntries entries + 1
  | .held _ => 1
def uptoBulkAll {H : Type} : List (DataW H) → Nat
  | [] => 0
  | d :: r => uptoBulk d + uptoBulkAll r
def uptoBulkEntries {H : Type} : List (Lit × DataW H) → Nat
  | [] => 0
  | x :: r => uptoBulkEntry x + uptoBulkEntries r
def uptoBulkEntry {H : Type} : Lit × DataW H → Nat
  | (.string bytes, d) => bytes.length + uptoBulk d + 1
  | (_, d) => uptoBulk d + 1
 end
def uptoSmall : (H : Type) → List (DataW H) → Bool := fun _ ds => decide (uptoBulkAll ds ≤ 1048576)
def OpenSpec.upto (s : _root_.Go.ChangeSpec) : _root_.Go.OpenSpec := { _root_.Go.OpenSpec.ofChange s with cond := some uptoSmall }

/-- 'watermeetlaw27.CutsCut', WHERE WHAT IT READS IS OF BULK AT MOST 1048576: true; the input reads as it did. -/
def cutsCutUptoRow : OpenClaim := { program := "ytjonlpdnhbnmmaa", sum := "94eb3b33d14b837a189eca909395d89c1d3a1cfa0b61e007cbdaa146113d6a3e", func := "watermeet/watermeetlaw27.CutsCut", spec := "cutsCut", inPlace := ["internal/bytealg.abigen_runtime_cmpstring"], unfollowed := true, recurses := true, plainKeys := false, apart := false, narrowed := true }
def CutsCutUptoSaid : Prop := cutsCutUptoRow.holds Try.pinned (OpenSpec.upto cutsCutSpec)

/-- 'watermeetlaw27.CutsMarks', WHERE WHAT IT READS IS OF BULK AT MOST 1048576: true; the input reads as it did. -/
def cutsMarksUptoRow : OpenClaim := { program := "ytjonlpdnhbnmmaa", sum := "94eb3b33d14b837a189eca909395d89c1d3a1cfa0b61e007cbdaa146113d6a3e", func := "watermeet/watermeetlaw27.CutsMarks", spec := "cutsMarks", inPlace := ["internal/bytealg.abigen_runtime_cmpstring"], unfollowed := true, recurses := true, plainKeys := false, apart := false, narrowed := true }
def CutsMarksUptoSaid : Prop := cutsMarksUptoRow.holds Try.pinned (OpenSpec.upto cutsMarksSpec)

/-- 'watermeetlaw27.CutsGreatest', WHERE WHAT IT READS IS OF BULK AT MOST 1048576: true; the input reads as it did. -/
def cutsGreatestUptoRow : OpenClaim := { program := "ytjonlpdnhbnmmaa", sum := "94eb3b33d14b837a189eca909395d89c1d3a1cfa0b61e007cbdaa146113d6a3e", func := "watermeet/watermeetlaw27.CutsGreatest", spec := "cutsGreatest", inPlace := ["internal/bytealg.abigen_runtime_cmpstring"], unfollowed := true, recurses := true, plainKeys := false, apart := false, narrowed := true }
def CutsGreatestUptoSaid : Prop := cutsGreatestUptoRow.holds Try.pinned (OpenSpec.upto cutsGreatestSpec)

/-- 'watermeetlaw27.CutsLesser', WHERE WHAT IT READS IS OF BULK AT MOST 1048576: true; the input reads as it did. -/
def cutsLesserUptoRow : OpenClaim := { program := "ytjonlpdnhbnmmaa", sum := "94eb3b33d14b837a189eca909395d89c1d3a1cfa0b61e007cbdaa146113d6a3e", func := "watermeet/watermeetlaw27.CutsLesser", spec := "cutsLesser", inPlace := ["internal/bytealg.abigen_runtime_cmpstring"], unfollowed := true, recurses := true, plainKeys := false, apart := false, narrowed := true }
def CutsLesserUptoSaid : Prop := cutsLesserUptoRow.holds Try.pinned (OpenSpec.upto cutsLesserSpec)

/-- 'watermeetlaw27.CutsHigher', WHERE WHAT IT READS IS OF BULK AT MOST 1048576: true; the input reads as it did. -/
def cutsHigherUptoRow : OpenClaim := { program := "ytjonlpdnhbnmmaa", sum := "94eb3b33d14b837a189eca909395d89c1d3a1cfa0b61e007cbdaa146113d6a3e", func := "watermeet/watermeetlaw27.CutsHigher", spec := "cutsHigher", inPlace := ["internal/bytealg.abigen_runtime_cmpstring"], unfollowed := true, recurses := true, plainKeys := false, apart := false, narrowed := true }
def CutsHigherUptoSaid : Prop := cutsHigherUptoRow.holds Try.pinned (OpenSpec.upto cutsHigherSpec)

/-- 'watermeetlaw27.CutsOrder', WHERE WHAT IT READS IS OF BULK AT MOST 1048576: true; the input reads as it did. -/
def cutsOrderUptoRow : OpenClaim := { program := "ytjonlpdnhbnmmaa", sum := "94eb3b33d14b837a189eca909395d89c1d3a1cfa0b61e007cbdaa146113d6a3e", func := "watermeet/watermeetlaw27.CutsOrder", spec := "cutsOrder", inPlace := ["internal/bytealg.abigen_runtime_cmpstring"], unfollowed := true, recurses := true, plainKeys := false, apart := false, narrowed := true }
def CutsOrderUptoSaid : Prop := cutsOrderUptoRow.holds Try.pinned (OpenSpec.upto cutsOrderSpec)

/-- 'watermeetlaw27.CutsShown', WHERE WHAT IT READS IS OF BULK AT MOST 1048576: true; the input reads as it did. -/
def cutsShownUptoRow : OpenClaim := { program := "ytjonlpdnhbnmmaa", sum := "94eb3b33d14b837a189eca909395d89c1d3a1cfa0b61e007cbdaa146113d6a3e", func := "watermeet/watermeetlaw27.CutsShown", spec := "cutsShown", inPlace := ["internal/bytealg.abigen_runtime_cmpstring"], unfollowed := true, recurses := true, plainKeys := false, apart := false, narrowed := true }
def CutsShownUptoSaid : Prop := cutsShownUptoRow.holds Try.pinned (OpenSpec.upto cutsShownSpec)

/-- 'watermeetlaw12.TxnsPut', WHERE WHAT IT READS IS OF BULK AT MOST 1048576: true; the input reads as it did. -/
def txnsPutUptoRow : OpenClaim := { program := "ytjonlpdnhbnmmaa", sum := "94eb3b33d14b837a189eca909395d89c1d3a1cfa0b61e007cbdaa146113d6a3e", func := "watermeet/watermeetlaw12.TxnsPut", spec := "txnsPut", inPlace := ["slices.overlaps[watermeet/api.Open]"], unfollowed := true, recurses := true, plainKeys := false, apart := false, narrowed := true }
def TxnsPutUptoSaid : Prop := txnsPutUptoRow.holds Try.pinned (OpenSpec.upto txnsPutSpec)

/-- 'watermeetlaw12.TxnsWhole', WHERE WHAT IT READS IS OF BULK AT MOST 1048576: true; the input reads as it did. -/
def txnsWholeUptoRow : OpenClaim := { program := "ytjonlpdnhbnmmaa", sum := "94eb3b33d14b837a189eca909395d89c1d3a1cfa0b61e007cbdaa146113d6a3e", func := "watermeet/watermeetlaw12.TxnsWhole", spec := "txnsWhole", inPlace := ["slices.overlaps[watermeet/api.Open]"], unfollowed := true, recurses := true, plainKeys := false, apart := false, narrowed := true }
def TxnsWholeUptoSaid : Prop := txnsWholeUptoRow.holds Try.pinned (OpenSpec.upto txnsWholeSpec)

/-- 'watermeetlaw12.TxnsStep', WHERE WHAT IT READS IS OF BULK AT MOST 1048576: true; the input reads as it did. -/
def txnsStepUptoRow : OpenClaim := { program := "ytjonlpdnhbnmmaa", sum := "94eb3b33d14b837a189eca909395d89c1d3a1cfa0b61e007cbdaa146113d6a3e", func := "watermeet/watermeetlaw12.TxnsStep", spec := "txnsStep", inPlace := ["slices.overlaps[watermeet/api.Open]"], unfollowed := true, recurses := true, plainKeys := false, apart := false, narrowed := true }
def TxnsStepUptoSaid : Prop := txnsStepUptoRow.holds Try.pinned (OpenSpec.upto txnsStepSpec)

/-- 'watermeetlaw12.TxnsEnd', WHERE WHAT IT READS IS OF BULK AT MOST 1048576: true; the input reads as it did. -/
def txnsEndUptoRow : OpenClaim := { program := "ytjonlpdnhbnmmaa", sum := "94eb3b33d14b837a189eca909395d89c1d3a1cfa0b61e007cbdaa146113d6a3e", func := "watermeet/watermeetlaw12.TxnsEnd", spec := "txnsEnd", inPlace := ["slices.overlaps[watermeet/api.Open]"], unfollowed := true, recurses := true, plainKeys := false, apart := false, narrowed := true }
def TxnsEndUptoSaid : Prop := txnsEndUptoRow.holds Try.pinned (OpenSpec.upto txnsEndSpec)

/-- 'watermeetlaw12.TxnsStable', WHERE WHAT IT READS IS OF BULK AT MOST 1048576: true; the input reads as it did. -/
def txnsStableUptoRow : OpenClaim := { program := "ytjonlpdnhbnmmaa", sum := "94eb3b33d14b837a189eca909395d89c1d3a1cfa0b61e007cbdaa146113d6a3e", func := "watermeet/watermeetlaw12.TxnsStable", spec := "txnsStable", inPlace := ["slices.overlaps[watermeet/api.Open]"], unfollowed := true, recurses := true, plainKeys := false, apart := false, narrowed := true }
def TxnsStableUptoSaid : Prop := txnsStableUptoRow.holds Try.pinned (OpenSpec.upto txnsStableSpec)

/-- 'watermeetlaw12.TxnsRow', WHERE WHAT IT READS IS OF BULK AT MOST 1048576: true; the input reads as it did. -/
def txnsRowUptoRow : OpenClaim := { program := "ytjonlpdnhbnmmaa", sum := "94eb3b33d14b837a189eca909395d89c1d3a1cfa0b61e007cbdaa146113d6a3e", func := "watermeet/watermeetlaw12.TxnsRow", spec := "txnsRow", inPlace := ["slices.overlaps[watermeet/api.Open]"], unfollowed := true, recurses := true, plainKeys := false, apart := false, narrowed := true }
def TxnsRowUptoSaid : Prop := txnsRowUptoRow.holds Try.pinned (OpenSpec.upto txnsRowSpec)

/-- 'watermeetlaw12.TxnsHidden', WHERE WHAT IT READS IS OF BULK AT MOST 1048576: true; the input reads as it did. -/
def txnsHiddenUptoRow : OpenClaim := { program := "ytjonlpdnhbnmmaa", sum := "94eb3b33d14b837a189eca909395d89c1d3a1cfa0b61e007cbdaa146113d6a3e", func := "watermeet/watermeetlaw12.TxnsHidden", spec := "txnsHidden", inPlace := ["slices.overlaps[watermeet/api.Open]"], unfollowed := true, recurses := true, plainKeys := false, apart := false, narrowed := true }
def TxnsHiddenUptoSaid : Prop := txnsHiddenUptoRow.holds Try.pinned (OpenSpec.upto txnsHiddenSpec)

/-- 'watermeetlaw12.TxnsShown', WHERE WHAT IT READS IS OF BULK AT MOST 1048576: true; the input reads as it did. -/
def txnsShownUptoRow : OpenClaim := { program := "ytjonlpdnhbnmmaa", sum := "94eb3b33d14b837a189eca909395d89c1d3a1cfa0b61e007cbdaa146113d6a3e", func := "watermeet/watermeetlaw12.TxnsShown", spec := "txnsShown", inPlace := ["slices.overlaps[watermeet/api.Open]"], unfollowed := true, recurses := true, plainKeys := false, apart := false, narrowed := true }
def TxnsShownUptoSaid : Prop := txnsShownUptoRow.holds Try.pinned (OpenSpec.upto txnsShownSpec)

end Rows
end Go.Proofs.Ytjonlpdnhbnmmaa

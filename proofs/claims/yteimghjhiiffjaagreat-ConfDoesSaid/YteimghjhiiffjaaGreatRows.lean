/-
  No cell of these rows narrows 'for every input' (looked for: loops, veiled, ifaces, maps, wideKeys, modest, calm, conditions, laid).
  DERIVED. THE GIVEN ROWS OF THIS SEAT. 7 by the template 'for every input the law returns true; each argument reads behind the call as it read before'; 0 by the template 'total and deterministic' (their statements: YteimghjhiiffjaaGreatTotals.lean).
  GIVEN WITH THE SEED: the statements are not yours to turn. If you find one false, say at which input.
  Laid BY PROGRAM, IN A SANDBOX (cutbox-rows.mjs): the forced cells as the released guide's own fill.sh prints them over the translation 77f66541744a5ce7… (all of the seat's roots in one cut). By AI agents, Wed Nov 11 2026. No macro, syntax, notation, axiom, sorry.
-/
import Derived.Test.YteimghjhiiffjaaGreatChecked
import GoSem.Claim
import GoSem.ClaimJoined
import GoSem.ClaimMapViews
import Derived.JoinedTies
import Derived.KernelRfl
namespace Go.Proofs.YteimghjhiiffjaaGreat
/- THE CELL 'sum', in the pinned program and in every row, IS THE sha256 OF THE DUMP (.gsa) THAT YteimghjhiiffjaaGreatProg.lean LOADS. Nothing in Lean hashes anything: it is a label: what it is worth is what the hold of that sum in a sandbox is worth. -/
noncomputable def Tryz.pinned : Pinned := { name := "yteimghjhiiffjaagreat", sum := "77f66541744a5ce7da778c6ba225a3484e5091f8cb67770c9cff5041b8f8e51e", checked := Tryz.checked }
namespace Rows
def none {H : Type} : Left H := { results := [], args := [] }

/-- 'watermeetlaw19.ConfDoes': WHATEVER THE INPUT: true; the input reads as it did. -/
def confDoesSpec : ChangeSpec := { name := "confDoes", fn := fun _ => fun
  | [d1, d2] => { results := [.lit (.bool true)], args := [d1, d2] }
  | _ => none }
def confDoesRow : OpenClaim := { program := "yteimghjhiiffjaagreat", sum := "77f66541744a5ce7da778c6ba225a3484e5091f8cb67770c9cff5041b8f8e51e", func := "watermeet/watermeetlaw19.ConfDoes", spec := "confDoes", inPlace := ["slices.overlaps[watermeet/api.Way]", "slices.overlaps[watermeet/api.Topic]", "slices.overlaps[watermeet/api.Rule]", "slices.overlaps[watermeet/api.Rate]"], unfollowed := true, recurses := true, apart := false }
def ConfDoesSaid : Prop := confDoesRow.holds Tryz.pinned (OpenSpec.ofChange confDoesSpec)

/-- ITS FALSE NEIGHBOUR: 'it returns false'. Refute it at one input. -/
def confDoesWrong : ChangeSpec := { name := "confDoes", fn := fun _ => fun
  | [d1, d2] => { results := [.lit (.bool false)], args := [d1, d2] }
  | _ => none }
def ConfDoesWrongFalsely : Prop := confDoesRow.holds Tryz.pinned (OpenSpec.ofChange confDoesWrong)

/-- 'watermeetlaw19.ConfAll': WHATEVER THE INPUT: true; the input reads as it did. -/
def confAllSpec : ChangeSpec := { name := "confAll", fn := fun _ => fun
  | [d1, d2] => { results := [.lit (.bool true)], args := [d1, d2] }
  | _ => none }
def confAllRow : OpenClaim := { program := "yteimghjhiiffjaagreat", sum := "77f66541744a5ce7da778c6ba225a3484e5091f8cb67770c9cff5041b8f8e51e", func := "watermeet/watermeetlaw19.ConfAll", spec := "confAll", inPlace := ["slices.overlaps[watermeet/api.Way]", "slices.overlaps[watermeet/api.Topic]", "slices.overlaps[watermeet/api.Rule]", "slices.overlaps[watermeet/api.Rate]"], unfollowed := true, recurses := true, apart := false }
def ConfAllSaid : Prop := confAllRow.holds Tryz.pinned (OpenSpec.ofChange confAllSpec)

/-- ITS FALSE NEIGHBOUR: 'it returns false'. Refute it at one input. -/
def confAllWrong : ChangeSpec := { name := "confAll", fn := fun _ => fun
  | [d1, d2] => { results := [.lit (.bool false)], args := [d1, d2] }
  | _ => none }
def ConfAllWrongFalsely : Prop := confAllRow.holds Tryz.pinned (OpenSpec.ofChange confAllWrong)

/-- 'watermeetlaw19.ConfTells': WHATEVER THE INPUT: true; the input reads as it did. -/
def confTellsSpec : ChangeSpec := { name := "confTells", fn := fun _ => fun
  | [d1, d2, d3, d4, d5, d6] => { results := [.lit (.bool true)], args := [d1, d2, d3, d4, d5, d6] }
  | _ => none }
def confTellsRow : OpenClaim := { program := "yteimghjhiiffjaagreat", sum := "77f66541744a5ce7da778c6ba225a3484e5091f8cb67770c9cff5041b8f8e51e", func := "watermeet/watermeetlaw19.ConfTells", spec := "confTells", inPlace := ["slices.overlaps[watermeet/api.Way]", "slices.overlaps[watermeet/api.Topic]", "slices.overlaps[watermeet/api.Rule]", "slices.overlaps[watermeet/api.Rate]"], unfollowed := true, recurses := true, apart := false }
def ConfTellsSaid : Prop := confTellsRow.holds Tryz.pinned (OpenSpec.ofChange confTellsSpec)

/-- ITS FALSE NEIGHBOUR: 'it returns false'. Refute it at one input. -/
def confTellsWrong : ChangeSpec := { name := "confTells", fn := fun _ => fun
  | [d1, d2, d3, d4, d5, d6] => { results := [.lit (.bool false)], args := [d1, d2, d3, d4, d5, d6] }
  | _ => none }
def ConfTellsWrongFalsely : Prop := confTellsRow.holds Tryz.pinned (OpenSpec.ofChange confTellsWrong)

/-- 'watermeetlaw19.ConfReplays': WHATEVER THE INPUT: true; the input reads as it did. -/
def confReplaysSpec : ChangeSpec := { name := "confReplays", fn := fun _ => fun
  | [d] => { results := [.lit (.bool true)], args := [d] }
  | _ => none }
def confReplaysRow : OpenClaim := { program := "yteimghjhiiffjaagreat", sum := "77f66541744a5ce7da778c6ba225a3484e5091f8cb67770c9cff5041b8f8e51e", func := "watermeet/watermeetlaw19.ConfReplays", spec := "confReplays", inPlace := ["slices.overlaps[watermeet/api.Way]", "slices.overlaps[watermeet/api.Topic]", "slices.overlaps[watermeet/api.Rule]", "slices.overlaps[watermeet/api.Rate]"], unfollowed := true, recurses := true, apart := false }
def ConfReplaysSaid : Prop := confReplaysRow.holds Tryz.pinned (OpenSpec.ofChange confReplaysSpec)

/-- ITS FALSE NEIGHBOUR: 'it returns false'. Refute it at one input. -/
def confReplaysWrong : ChangeSpec := { name := "confReplays", fn := fun _ => fun
  | [d] => { results := [.lit (.bool false)], args := [d] }
  | _ => none }
def ConfReplaysWrongFalsely : Prop := confReplaysRow.holds Tryz.pinned (OpenSpec.ofChange confReplaysWrong)

/-- 'watermeetlaw19.ConfSaves': WHATEVER THE INPUT: true; the input reads as it did. -/
def confSavesSpec : ChangeSpec := { name := "confSaves", fn := fun _ => fun
  | [d1, d2, d3] => { results := [.lit (.bool true)], args := [d1, d2, d3] }
  | _ => none }
def confSavesRow : OpenClaim := { program := "yteimghjhiiffjaagreat", sum := "77f66541744a5ce7da778c6ba225a3484e5091f8cb67770c9cff5041b8f8e51e", func := "watermeet/watermeetlaw19.ConfSaves", spec := "confSaves", inPlace := ["slices.overlaps[watermeet/api.Way]", "slices.overlaps[watermeet/api.Topic]", "slices.overlaps[watermeet/api.Rule]", "slices.overlaps[watermeet/api.Rate]"], unfollowed := true, recurses := true, apart := false }
def ConfSavesSaid : Prop := confSavesRow.holds Tryz.pinned (OpenSpec.ofChange confSavesSpec)

/-- ITS FALSE NEIGHBOUR: 'it returns false'. Refute it at one input. -/
def confSavesWrong : ChangeSpec := { name := "confSaves", fn := fun _ => fun
  | [d1, d2, d3] => { results := [.lit (.bool false)], args := [d1, d2, d3] }
  | _ => none }
def ConfSavesWrongFalsely : Prop := confSavesRow.holds Tryz.pinned (OpenSpec.ofChange confSavesWrong)

/-- 'watermeetlaw19.ConfBack': WHATEVER THE INPUT: true; the input reads as it did. -/
def confBackSpec : ChangeSpec := { name := "confBack", fn := fun _ => fun
  | [d] => { results := [.lit (.bool true)], args := [d] }
  | _ => none }
def confBackRow : OpenClaim := { program := "yteimghjhiiffjaagreat", sum := "77f66541744a5ce7da778c6ba225a3484e5091f8cb67770c9cff5041b8f8e51e", func := "watermeet/watermeetlaw19.ConfBack", spec := "confBack", inPlace := ["slices.overlaps[watermeet/api.Way]", "slices.overlaps[watermeet/api.Topic]", "slices.overlaps[watermeet/api.Rule]", "slices.overlaps[watermeet/api.Rate]"], unfollowed := true, recurses := true, apart := false }
def ConfBackSaid : Prop := confBackRow.holds Tryz.pinned (OpenSpec.ofChange confBackSpec)

/-- ITS FALSE NEIGHBOUR: 'it returns false'. Refute it at one input. -/
def confBackWrong : ChangeSpec := { name := "confBack", fn := fun _ => fun
  | [d] => { results := [.lit (.bool false)], args := [d] }
  | _ => none }
def ConfBackWrongFalsely : Prop := confBackRow.holds Tryz.pinned (OpenSpec.ofChange confBackWrong)

/-- 'watermeetlaw19.ConfTorn': WHATEVER THE INPUT: true; the input reads as it did. -/
def confTornSpec : ChangeSpec := { name := "confTorn", fn := fun _ => fun
  | [d1, d2, d3] => { results := [.lit (.bool true)], args := [d1, d2, d3] }
  | _ => none }
def confTornRow : OpenClaim := { program := "yteimghjhiiffjaagreat", sum := "77f66541744a5ce7da778c6ba225a3484e5091f8cb67770c9cff5041b8f8e51e", func := "watermeet/watermeetlaw19.ConfTorn", spec := "confTorn", inPlace := ["slices.overlaps[watermeet/api.Way]", "slices.overlaps[watermeet/api.Topic]", "slices.overlaps[watermeet/api.Rule]", "slices.overlaps[watermeet/api.Rate]"], unfollowed := true, recurses := true, apart := false }
def ConfTornSaid : Prop := confTornRow.holds Tryz.pinned (OpenSpec.ofChange confTornSpec)

/-- ITS FALSE NEIGHBOUR: 'it returns false'. Refute it at one input. -/
def confTornWrong : ChangeSpec := { name := "confTorn", fn := fun _ => fun
  | [d1, d2, d3] => { results := [.lit (.bool false)], args := [d1, d2, d3] }
  | _ => none }
def ConfTornWrongFalsely : Prop := confTornRow.holds Tryz.pinned (OpenSpec.ofChange confTornWrong)

/- THE SECOND FORM. 'bulk': how many values and letters a reading holds, each counted each time it is reached (what is shared counts as often as it is met; a slice's spare places count too). A statement '..UptoSaid' is the law's where the arguments, and the package variables that the reading takes, are together of bulk at most 1048576: NARROWER than '..Said'. Prove '..Said' where nothing that the law and all that it calls make is longer than what came in: it says more and counts as full. Else prove '..UptoSaid'. A law counts once. -/
mutual
def uptoBulk {H : Type} : DataW H → Nat
  | .lit (.string bytes) => bytes.length + 1
  | .lit _ => 1
  | .nil => 1
  | .ptr d => uptoBulk d + 1
  | .slice elems spare => uptoBulkAll elems + uptoBulkAll spare + 1
  | .agg parts => uptoBulkAll parts + 1
  | .iface _ d => uptoBulk d + 1
  | .map entries => uptoBulkEntries entries + 1
  | .held _ => 1
def uptoBulkAll {H : Type} : List (DataW H) → Nat
  | [] => 0
  | d :: r => uptoBulk d + uptoBulkAll r
def uptoBulkEntries {H : Type} : List (Lit × DataW H) → Nat
  | [] => 0
  | x :: r => uptoBulkEntry x + uptoBulkEntries r
def uptoBulkEntry {H : Type} : Lit × DataW H → Nat
  | (.string bytes, d) => bytes.length + uptoBulk d + 1
  | (_, d) => uptoBulk d + 1
 end
def uptoSmall : (H : Type) → List (DataW H) → Bool := fun _ ds => decide (uptoBulkAll ds ≤ 1048576)
def OpenSpec.upto (s : _root_.Go.ChangeSpec) : _root_.Go.OpenSpec := { _root_.Go.OpenSpec.ofChange s with cond := some uptoSmall }

/-- 'watermeetlaw19.ConfDoes', WHERE WHAT IT READS IS OF BULK AT MOST 1048576: true; the input reads as it did. -/
def confDoesUptoRow : OpenClaim := { program := "yteimghjhiiffjaagreat", sum := "77f66541744a5ce7da778c6ba225a3484e5091f8cb67770c9cff5041b8f8e51e", func := "watermeet/watermeetlaw19.ConfDoes", spec := "confDoes", inPlace := ["slices.overlaps[watermeet/api.Way]", "slices.overlaps[watermeet/api.Topic]", "slices.overlaps[watermeet/api.Rule]", "slices.overlaps[watermeet/api.Rate]"], unfollowed := true, recurses := true, apart := false, narrowed := true }
def ConfDoesUptoSaid : Prop := confDoesUptoRow.holds Tryz.pinned (OpenSpec.upto confDoesSpec)

/-- 'watermeetlaw19.ConfAll', WHERE WHAT IT READS IS OF BULK AT MOST 1048576: true; the input reads as it did. -/
def confAllUptoRow : OpenClaim := { program := "yteimghjhiiffjaagreat", sum := "77f66541744a5ce7da778c6ba225a3484e5091f8cb67770c9cff5041b8f8e51e", func := "watermeet/watermeetlaw19.ConfAll", spec := "confAll", inPlace := ["slices.overlaps[watermeet/api.Way]", "slices.overlaps[watermeet/api.Topic]", "slices.overlaps[watermeet/api.Rule]", "slices.overlaps[watermeet/api.Rate]"], unfollowed := true, recurses := true, apart := false, narrowed := true }
def ConfAllUptoSaid : Prop := confAllUptoRow.holds Tryz.pinned (OpenSpec.upto confAllSpec)

/-- 'watermeetlaw19.ConfTells', WHERE WHAT IT READS IS OF BULK AT MOST 1048576: true; the input reads as it did. -/
def confTellsUptoRow : OpenClaim := { program := "yteimghjhiiffjaagreat", sum := "77f66541744a5ce7da778c6ba225a3484e5091f8cb67770c9cff5041b8f8e51e", func := "watermeet/watermeetlaw19.ConfTells", spec := "confTells", inPlace := ["slices.overlaps[watermeet/api.Way]", "slices.overlaps[watermeet/api.Topic]", "slices.overlaps[watermeet/api.Rule]", "slices.overlaps[watermeet/api.Rate]"], unfollowed := true, recurses := true, apart := false, narrowed := true }
def ConfTellsUptoSaid : Prop := confTellsUptoRow.holds Tryz.pinned (OpenSpec.upto confTellsSpec)

/-- 'watermeetlaw19.ConfReplays', WHERE WHAT IT READS IS OF BULK AT MOST 1048576: true; the input reads as it did. -/
def confReplaysUptoRow : OpenClaim := { program := "yteimghjhiiffjaagreat", sum := "77f66541744a5ce7da778c6ba225a3484e5091f8cb67770c9cff5041b8f8e51e", func := "watermeet/watermeetlaw19.ConfReplays", spec := "confReplays", inPlace := ["slices.overlaps[watermeet/api.Way]", "slices.overlaps[watermeet/api.Topic]", "slices.overlaps[watermeet/api.Rule]", "slices.overlaps[watermeet/api.Rate]"], unfollowed := true, recurses := true, apart := false, narrowed := true }
def ConfReplaysUptoSaid : Prop := confReplaysUptoRow.holds Tryz.pinned (OpenSpec.upto confReplaysSpec)

/-- 'watermeetlaw19.ConfSaves', WHERE WHAT IT READS IS OF BULK AT MOST 1048576: true; the input reads as it did. -/
def confSavesUptoRow : OpenClaim := { program := "yteimghjhiiffjaagreat", sum := "77f66541744a5ce7da778c6ba225a3484e5091f8cb67770c9cff5041b8f8e51e", func := "watermeet/watermeetlaw19.ConfSaves", spec := "confSaves", inPlace := ["slices.overlaps[watermeet/api.Way]", "slices.overlaps[watermeet/api.Topic]", "slices.overlaps[watermeet/api.Rule]", "slices.overlaps[watermeet/api.Rate]"], unfollowed := true, recurses := true, apart := false, narrowed := true }
def ConfSavesUptoSaid : Prop := confSavesUptoRow.holds Tryz.pinned (OpenSpec.upto confSavesSpec)

/-- 'watermeetlaw19.ConfBack', WHERE WHAT IT READS IS OF BULK AT MOST 1048576: true; the input reads as it did. -/
def confBackUptoRow : OpenClaim := { program := "yteimghjhiiffjaagreat", sum := "77f66541744a5ce7da778c6ba225a3484e5091f8cb67770c9cff5041b8f8e51e", func := "watermeet/watermeetlaw19.ConfBack", spec := "confBack", inPlace := ["slices.overlaps[watermeet/api.Way]", "slices.overlaps[watermeet/api.Topic]", "slices.overlaps[watermeet/api.Rule]", "slices.overlaps[watermeet/api.Rate]"], unfollowed := true, recurses := true, apart := false, narrowed := true }
def ConfBackUptoSaid : Prop := confBackUptoRow.holds Tryz.pinned (OpenSpec.upto confBackSpec)

/-- 'watermeetlaw19.ConfTorn', WHERE WHAT IT READS IS OF BULK AT MOST 1048576: true; the input reads as it did. -/
def confTornUptoRow : OpenClaim := { program := "yteimghjhiiffjaagreat", sum := "77f66541744a5ce7da778c6ba225a3484e5091f8cb67770c9cff5041b8f8e51e", func := "watermeet/watermeetlaw19.ConfTorn", spec := "confTorn", inPlace := ["slices.overlaps[watermeet/api.Way]", "slices.overlaps[watermeet/api.Topic]", "slices.overlaps[watermeet/api.Rule]", "slices.overlaps[watermeet/api.Rate]"], unfollowed := true, recurses := true, apart := false, narrowed := true }
def ConfTornUptoSaid : Prop := confTornUptoRow.holds Tryz.pinned (OpenSpec.upto confTornSpec)

end Rows
end Go.Proofs.YteimghjhiiffjaaGreat

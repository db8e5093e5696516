/-
  No cell of these rows narrows 'for every input' (looked for: loops, veiled, ifaces, maps, wideKeys, modest, calm, conditions, laid).
  DERIVED. THE GIVEN ROWS OF THIS SEAT. 15 by the template 'for every input the law returns true; each argument reads behind the call as it read before'; 0 by the template 'total and deterministic' (their statements: YtfejamdfhbamcaaTotals.lean).
  GIVEN WITH THE SEED: the statements are not yours to turn. If you find one false, say at which input.
  Laid BY PROGRAM, IN A SANDBOX (cutbox-rows.mjs): the forced cells as the released guide's own fill.sh prints them over the translation b8148dedca1ae871… (all of the seat's roots in one cut). By AI agents, Wed Nov 11 2026. No macro, syntax, notation, axiom, sorry.
-/
import Derived.Test.YtfejamdfhbamcaaChecked
import GoSem.Claim
import GoSem.ClaimJoined
import GoSem.ClaimMapViews
import Derived.JoinedTies
import Derived.KernelRfl
namespace Go.Proofs.Ytfejamdfhbamcaa
/- THE CELL 'sum', in the pinned program and in every row, IS THE sha256 OF THE DUMP (.gsa) THAT YtfejamdfhbamcaaProg.lean LOADS. Nothing in Lean hashes anything: it is a label: what it is worth is what the hold of that sum in a sandbox is worth. -/
noncomputable def Try.pinned : Pinned := { name := "ytfejamdfhbamcaa", sum := "b8148dedca1ae871f1e25a316a64b8525611c1795505e91fba48d2572ef37e1f", checked := Try.checked }
namespace Rows
def none {H : Type} : Left H := { results := [], args := [] }

/-- 'watermeetlaw11.SeqsLooks': WHATEVER THE INPUT: true; the input reads as it did. -/
def seqsLooksSpec : ChangeSpec := { name := "seqsLooks", fn := fun _ => fun
  | [d1, d2] => { results := [.lit (.bool true)], args := [d1, d2] }
  | _ => none }
def seqsLooksRow : OpenClaim := { program := "ytfejamdfhbamcaa", sum := "b8148dedca1ae871f1e25a316a64b8525611c1795505e91fba48d2572ef37e1f", func := "watermeet/watermeetlaw11.SeqsLooks", spec := "seqsLooks", inPlace := ["slices.overlaps[watermeet/api.Prod]"], unfollowed := true, recurses := true, plainKeys := false, apart := false }
def SeqsLooksSaid : Prop := seqsLooksRow.holds Try.pinned (OpenSpec.ofChange seqsLooksSpec)

/-- ITS FALSE NEIGHBOUR: 'it returns false'. Refute it at one input. -/
def seqsLooksWrong : ChangeSpec := { name := "seqsLooks", fn := fun _ => fun
  | [d1, d2] => { results := [.lit (.bool false)], args := [d1, d2] }
  | _ => none }
def SeqsLooksWrongFalsely : Prop := seqsLooksRow.holds Try.pinned (OpenSpec.ofChange seqsLooksWrong)

/-- 'watermeetlaw11.SeqsPuts': WHATEVER THE INPUT: true; the input reads as it did. -/
def seqsPutsSpec : ChangeSpec := { name := "seqsPuts", fn := fun _ => fun
  | [d1, d2] => { results := [.lit (.bool true)], args := [d1, d2] }
  | _ => none }
def seqsPutsRow : OpenClaim := { program := "ytfejamdfhbamcaa", sum := "b8148dedca1ae871f1e25a316a64b8525611c1795505e91fba48d2572ef37e1f", func := "watermeet/watermeetlaw11.SeqsPuts", spec := "seqsPuts", inPlace := ["slices.overlaps[watermeet/api.Prod]"], unfollowed := true, recurses := true, plainKeys := false, apart := false }
def SeqsPutsSaid : Prop := seqsPutsRow.holds Try.pinned (OpenSpec.ofChange seqsPutsSpec)

/-- ITS FALSE NEIGHBOUR: 'it returns false'. Refute it at one input. -/
def seqsPutsWrong : ChangeSpec := { name := "seqsPuts", fn := fun _ => fun
  | [d1, d2] => { results := [.lit (.bool false)], args := [d1, d2] }
  | _ => none }
def SeqsPutsWrongFalsely : Prop := seqsPutsRow.holds Try.pinned (OpenSpec.ofChange seqsPutsWrong)

/-- 'watermeetlaw11.SeqsOfs': WHATEVER THE INPUT: true; the input reads as it did. -/
def seqsOfsSpec : ChangeSpec := { name := "seqsOfs", fn := fun _ => fun
  | [d] => { results := [.lit (.bool true)], args := [d] }
  | _ => none }
def seqsOfsRow : OpenClaim := { program := "ytfejamdfhbamcaa", sum := "b8148dedca1ae871f1e25a316a64b8525611c1795505e91fba48d2572ef37e1f", func := "watermeet/watermeetlaw11.SeqsOfs", spec := "seqsOfs", inPlace := ["slices.overlaps[watermeet/api.Prod]"], unfollowed := true, recurses := true, plainKeys := false, apart := false }
def SeqsOfsSaid : Prop := seqsOfsRow.holds Try.pinned (OpenSpec.ofChange seqsOfsSpec)

/-- ITS FALSE NEIGHBOUR: 'it returns false'. Refute it at one input. -/
def seqsOfsWrong : ChangeSpec := { name := "seqsOfs", fn := fun _ => fun
  | [d] => { results := [.lit (.bool false)], args := [d] }
  | _ => none }
def SeqsOfsWrongFalsely : Prop := seqsOfsRow.holds Try.pinned (OpenSpec.ofChange seqsOfsWrong)

/-- 'watermeetlaw11.SeqsSaves': WHATEVER THE INPUT: true; the input reads as it did. -/
def seqsSavesSpec : ChangeSpec := { name := "seqsSaves", fn := fun _ => fun
  | [d1, d2] => { results := [.lit (.bool true)], args := [d1, d2] }
  | _ => none }
def seqsSavesRow : OpenClaim := { program := "ytfejamdfhbamcaa", sum := "b8148dedca1ae871f1e25a316a64b8525611c1795505e91fba48d2572ef37e1f", func := "watermeet/watermeetlaw11.SeqsSaves", spec := "seqsSaves", inPlace := ["slices.overlaps[watermeet/api.Prod]"], unfollowed := true, recurses := true, plainKeys := false, apart := false }
def SeqsSavesSaid : Prop := seqsSavesRow.holds Try.pinned (OpenSpec.ofChange seqsSavesSpec)

/-- ITS FALSE NEIGHBOUR: 'it returns false'. Refute it at one input. -/
def seqsSavesWrong : ChangeSpec := { name := "seqsSaves", fn := fun _ => fun
  | [d1, d2] => { results := [.lit (.bool false)], args := [d1, d2] }
  | _ => none }
def SeqsSavesWrongFalsely : Prop := seqsSavesRow.holds Try.pinned (OpenSpec.ofChange seqsSavesWrong)

/-- 'watermeetlaw11.SeqsBack': WHATEVER THE INPUT: true; the input reads as it did. -/
def seqsBackSpec : ChangeSpec := { name := "seqsBack", fn := fun _ => fun
  | [d1, d2, d3] => { results := [.lit (.bool true)], args := [d1, d2, d3] }
  | _ => none }
def seqsBackRow : OpenClaim := { program := "ytfejamdfhbamcaa", sum := "b8148dedca1ae871f1e25a316a64b8525611c1795505e91fba48d2572ef37e1f", func := "watermeet/watermeetlaw11.SeqsBack", spec := "seqsBack", inPlace := ["slices.overlaps[watermeet/api.Prod]"], unfollowed := true, recurses := true, plainKeys := false, apart := false }
def SeqsBackSaid : Prop := seqsBackRow.holds Try.pinned (OpenSpec.ofChange seqsBackSpec)

/-- ITS FALSE NEIGHBOUR: 'it returns false'. Refute it at one input. -/
def seqsBackWrong : ChangeSpec := { name := "seqsBack", fn := fun _ => fun
  | [d1, d2, d3] => { results := [.lit (.bool false)], args := [d1, d2, d3] }
  | _ => none }
def SeqsBackWrongFalsely : Prop := seqsBackRow.holds Try.pinned (OpenSpec.ofChange seqsBackWrong)

/-- 'watermeetlaw11.SeqsTwice': WHATEVER THE INPUT: true; the input reads as it did. -/
def seqsTwiceSpec : ChangeSpec := { name := "seqsTwice", fn := fun _ => fun
  | [d1, d2] => { results := [.lit (.bool true)], args := [d1, d2] }
  | _ => none }
def seqsTwiceRow : OpenClaim := { program := "ytfejamdfhbamcaa", sum := "b8148dedca1ae871f1e25a316a64b8525611c1795505e91fba48d2572ef37e1f", func := "watermeet/watermeetlaw11.SeqsTwice", spec := "seqsTwice", inPlace := ["slices.overlaps[watermeet/api.Prod]"], unfollowed := true, recurses := true, plainKeys := false, apart := false }
def SeqsTwiceSaid : Prop := seqsTwiceRow.holds Try.pinned (OpenSpec.ofChange seqsTwiceSpec)

/-- ITS FALSE NEIGHBOUR: 'it returns false'. Refute it at one input. -/
def seqsTwiceWrong : ChangeSpec := { name := "seqsTwice", fn := fun _ => fun
  | [d1, d2] => { results := [.lit (.bool false)], args := [d1, d2] }
  | _ => none }
def SeqsTwiceWrongFalsely : Prop := seqsTwiceRow.holds Try.pinned (OpenSpec.ofChange seqsTwiceWrong)

/-- 'watermeetlaw11.SeqsFences': WHATEVER THE INPUT: true; the input reads as it did. -/
def seqsFencesSpec : ChangeSpec := { name := "seqsFences", fn := fun _ => fun
  | [d1, d2, d3] => { results := [.lit (.bool true)], args := [d1, d2, d3] }
  | _ => none }
def seqsFencesRow : OpenClaim := { program := "ytfejamdfhbamcaa", sum := "b8148dedca1ae871f1e25a316a64b8525611c1795505e91fba48d2572ef37e1f", func := "watermeet/watermeetlaw11.SeqsFences", spec := "seqsFences", inPlace := ["slices.overlaps[watermeet/api.Prod]"], unfollowed := true, recurses := true, plainKeys := false, apart := false }
def SeqsFencesSaid : Prop := seqsFencesRow.holds Try.pinned (OpenSpec.ofChange seqsFencesSpec)

/-- ITS FALSE NEIGHBOUR: 'it returns false'. Refute it at one input. -/
def seqsFencesWrong : ChangeSpec := { name := "seqsFences", fn := fun _ => fun
  | [d1, d2, d3] => { results := [.lit (.bool false)], args := [d1, d2, d3] }
  | _ => none }
def SeqsFencesWrongFalsely : Prop := seqsFencesRow.holds Try.pinned (OpenSpec.ofChange seqsFencesWrong)

/-- 'watermeetlaw11.SeqsOthers': WHATEVER THE INPUT: true; the input reads as it did. -/
def seqsOthersSpec : ChangeSpec := { name := "seqsOthers", fn := fun _ => fun
  | [d1, d2] => { results := [.lit (.bool true)], args := [d1, d2] }
  | _ => none }
def seqsOthersRow : OpenClaim := { program := "ytfejamdfhbamcaa", sum := "b8148dedca1ae871f1e25a316a64b8525611c1795505e91fba48d2572ef37e1f", func := "watermeet/watermeetlaw11.SeqsOthers", spec := "seqsOthers", inPlace := ["slices.overlaps[watermeet/api.Prod]"], unfollowed := true, recurses := true, plainKeys := false, apart := false }
def SeqsOthersSaid : Prop := seqsOthersRow.holds Try.pinned (OpenSpec.ofChange seqsOthersSpec)

/-- ITS FALSE NEIGHBOUR: 'it returns false'. Refute it at one input. -/
def seqsOthersWrong : ChangeSpec := { name := "seqsOthers", fn := fun _ => fun
  | [d1, d2] => { results := [.lit (.bool false)], args := [d1, d2] }
  | _ => none }
def SeqsOthersWrongFalsely : Prop := seqsOthersRow.holds Try.pinned (OpenSpec.ofChange seqsOthersWrong)

/-- 'watermeetlaw11.SeqsOnce': WHATEVER THE INPUT: true; the input reads as it did. -/
def seqsOnceSpec : ChangeSpec := { name := "seqsOnce", fn := fun _ => fun
  | [d1, d2] => { results := [.lit (.bool true)], args := [d1, d2] }
  | _ => none }
def seqsOnceRow : OpenClaim := { program := "ytfejamdfhbamcaa", sum := "b8148dedca1ae871f1e25a316a64b8525611c1795505e91fba48d2572ef37e1f", func := "watermeet/watermeetlaw11.SeqsOnce", spec := "seqsOnce", inPlace := ["slices.overlaps[watermeet/api.Prod]"], unfollowed := true, recurses := true, plainKeys := false, apart := false }
def SeqsOnceSaid : Prop := seqsOnceRow.holds Try.pinned (OpenSpec.ofChange seqsOnceSpec)

/-- ITS FALSE NEIGHBOUR: 'it returns false'. Refute it at one input. -/
def seqsOnceWrong : ChangeSpec := { name := "seqsOnce", fn := fun _ => fun
  | [d1, d2] => { results := [.lit (.bool false)], args := [d1, d2] }
  | _ => none }
def SeqsOnceWrongFalsely : Prop := seqsOnceRow.holds Try.pinned (OpenSpec.ofChange seqsOnceWrong)

/-- 'watermeetlaw23.GroupJoins': WHATEVER THE INPUT: true; the input reads as it did. -/
def groupJoinsSpec : ChangeSpec := { name := "groupJoins", fn := fun _ => fun
  | [d1, d2, d3, d4] => { results := [.lit (.bool true)], args := [d1, d2, d3, d4] }
  | _ => none }
def groupJoinsRow : OpenClaim := { program := "ytfejamdfhbamcaa", sum := "b8148dedca1ae871f1e25a316a64b8525611c1795505e91fba48d2572ef37e1f", func := "watermeet/watermeetlaw23.GroupJoins", spec := "groupJoins", inPlace := ["internal/bytealg.abigen_runtime_cmpstring", "slices.overlaps[watermeet/api.Member]"], unfollowed := true, recurses := true, plainKeys := false, apart := false }
def GroupJoinsSaid : Prop := groupJoinsRow.holds Try.pinned (OpenSpec.ofChange groupJoinsSpec)

/-- ITS FALSE NEIGHBOUR: 'it returns false'. Refute it at one input. -/
def groupJoinsWrong : ChangeSpec := { name := "groupJoins", fn := fun _ => fun
  | [d1, d2, d3, d4] => { results := [.lit (.bool false)], args := [d1, d2, d3, d4] }
  | _ => none }
def GroupJoinsWrongFalsely : Prop := groupJoinsRow.holds Try.pinned (OpenSpec.ofChange groupJoinsWrong)

/-- 'watermeetlaw23.GroupRounds': WHATEVER THE INPUT: true; the input reads as it did. -/
def groupRoundsSpec : ChangeSpec := { name := "groupRounds", fn := fun _ => fun
  | [d1, d2, d3] => { results := [.lit (.bool true)], args := [d1, d2, d3] }
  | _ => none }
def groupRoundsRow : OpenClaim := { program := "ytfejamdfhbamcaa", sum := "b8148dedca1ae871f1e25a316a64b8525611c1795505e91fba48d2572ef37e1f", func := "watermeet/watermeetlaw23.GroupRounds", spec := "groupRounds", inPlace := ["internal/bytealg.abigen_runtime_cmpstring", "slices.overlaps[watermeet/api.Member]"], unfollowed := true, recurses := true, plainKeys := false, apart := false }
def GroupRoundsSaid : Prop := groupRoundsRow.holds Try.pinned (OpenSpec.ofChange groupRoundsSpec)

/-- ITS FALSE NEIGHBOUR: 'it returns false'. Refute it at one input. -/
def groupRoundsWrong : ChangeSpec := { name := "groupRounds", fn := fun _ => fun
  | [d1, d2, d3] => { results := [.lit (.bool false)], args := [d1, d2, d3] }
  | _ => none }
def GroupRoundsWrongFalsely : Prop := groupRoundsRow.holds Try.pinned (OpenSpec.ofChange groupRoundsWrong)

/-- 'watermeetlaw23.GroupStays': WHATEVER THE INPUT: true; the input reads as it did. -/
def groupStaysSpec : ChangeSpec := { name := "groupStays", fn := fun _ => fun
  | [d1, d2, d3, d4] => { results := [.lit (.bool true)], args := [d1, d2, d3, d4] }
  | _ => none }
def groupStaysRow : OpenClaim := { program := "ytfejamdfhbamcaa", sum := "b8148dedca1ae871f1e25a316a64b8525611c1795505e91fba48d2572ef37e1f", func := "watermeet/watermeetlaw23.GroupStays", spec := "groupStays", inPlace := ["internal/bytealg.abigen_runtime_cmpstring", "slices.overlaps[watermeet/api.Member]"], unfollowed := true, recurses := true, plainKeys := false, apart := false }
def GroupStaysSaid : Prop := groupStaysRow.holds Try.pinned (OpenSpec.ofChange groupStaysSpec)

/-- ITS FALSE NEIGHBOUR: 'it returns false'. Refute it at one input. -/
def groupStaysWrong : ChangeSpec := { name := "groupStays", fn := fun _ => fun
  | [d1, d2, d3, d4] => { results := [.lit (.bool false)], args := [d1, d2, d3, d4] }
  | _ => none }
def GroupStaysWrongFalsely : Prop := groupStaysRow.holds Try.pinned (OpenSpec.ofChange groupStaysWrong)

/-- 'watermeetlaw23.GroupTicks': WHATEVER THE INPUT: true; the input reads as it did. -/
def groupTicksSpec : ChangeSpec := { name := "groupTicks", fn := fun _ => fun
  | [d1, d2, d3] => { results := [.lit (.bool true)], args := [d1, d2, d3] }
  | _ => none }
def groupTicksRow : OpenClaim := { program := "ytfejamdfhbamcaa", sum := "b8148dedca1ae871f1e25a316a64b8525611c1795505e91fba48d2572ef37e1f", func := "watermeet/watermeetlaw23.GroupTicks", spec := "groupTicks", inPlace := ["internal/bytealg.abigen_runtime_cmpstring", "slices.overlaps[watermeet/api.Member]"], unfollowed := true, recurses := true, plainKeys := false, apart := false }
def GroupTicksSaid : Prop := groupTicksRow.holds Try.pinned (OpenSpec.ofChange groupTicksSpec)

/-- ITS FALSE NEIGHBOUR: 'it returns false'. Refute it at one input. -/
def groupTicksWrong : ChangeSpec := { name := "groupTicks", fn := fun _ => fun
  | [d1, d2, d3] => { results := [.lit (.bool false)], args := [d1, d2, d3] }
  | _ => none }
def GroupTicksWrongFalsely : Prop := groupTicksRow.holds Try.pinned (OpenSpec.ofChange groupTicksWrong)

/-- 'watermeetlaw23.GroupApart': WHATEVER THE INPUT: true; the input reads as it did. -/
def groupApartSpec : ChangeSpec := { name := "groupApart", fn := fun _ => fun
  | [d1, d2] => { results := [.lit (.bool true)], args := [d1, d2] }
  | _ => none }
def groupApartRow : OpenClaim := { program := "ytfejamdfhbamcaa", sum := "b8148dedca1ae871f1e25a316a64b8525611c1795505e91fba48d2572ef37e1f", func := "watermeet/watermeetlaw23.GroupApart", spec := "groupApart", inPlace := ["internal/bytealg.abigen_runtime_cmpstring", "slices.overlaps[watermeet/api.Member]"], unfollowed := true, recurses := true, plainKeys := false, apart := false }
def GroupApartSaid : Prop := groupApartRow.holds Try.pinned (OpenSpec.ofChange groupApartSpec)

/-- ITS FALSE NEIGHBOUR: 'it returns false'. Refute it at one input. -/
def groupApartWrong : ChangeSpec := { name := "groupApart", fn := fun _ => fun
  | [d1, d2] => { results := [.lit (.bool false)], args := [d1, d2] }
  | _ => none }
def GroupApartWrongFalsely : Prop := groupApartRow.holds Try.pinned (OpenSpec.ofChange groupApartWrong)

/-- 'watermeetlaw23.GroupShared': WHATEVER THE INPUT: true; the input reads as it did. -/
def groupSharedSpec : ChangeSpec := { name := "groupShared", fn := fun _ => fun
  | [d1, d2, d3] => { results := [.lit (.bool true)], args := [d1, d2, d3] }
  | _ => none }
def groupSharedRow : OpenClaim := { program := "ytfejamdfhbamcaa", sum := "b8148dedca1ae871f1e25a316a64b8525611c1795505e91fba48d2572ef37e1f", func := "watermeet/watermeetlaw23.GroupShared", spec := "groupShared", inPlace := ["internal/bytealg.abigen_runtime_cmpstring", "slices.overlaps[watermeet/api.Member]"], unfollowed := true, recurses := true, plainKeys := false, apart := false }
def GroupSharedSaid : Prop := groupSharedRow.holds Try.pinned (OpenSpec.ofChange groupSharedSpec)

/-- ITS FALSE NEIGHBOUR: 'it returns false'. Refute it at one input. -/
def groupSharedWrong : ChangeSpec := { name := "groupShared", fn := fun _ => fun
  | [d1, d2, d3] => { results := [.lit (.bool false)], args := [d1, d2, d3] }
  | _ => none }
def GroupSharedWrongFalsely : Prop := groupSharedRow.holds Try.pinned (OpenSpec.ofChange groupSharedWrong)

/- THE SECOND FORM. 'bulk': how many values and letters a reading holds, each counted each time it is reached (what is shared counts as often as it is met; a slice's spare places count too). A statement '..UptoSaid' is the law's where the arguments, and the package variables that the reading takes, are together of bulk at most 1048576: NARROWER than '..Said'. Prove '..Said' where nothing that the law and all that it calls make is longer than what came in: it says more and counts as full. Else prove '..UptoSaid'. A law counts once. -/
mutual
def uptoBulk {H : Type} : DataW H → Nat
  | .lit (.string bytes) => bytes.length + 1
  | .lit _ => 1
  | .nil => 1
  | .ptr d => uptoBulk d + 1
  | .slice elems spare => uptoBulkAll elems + uptoBulkAll spare + 1
  | .agg parts => uptoBulkAll parts + 1
  | .iface _ d => uptoBulk d + 1
  | .map entries => uptoBulkEntries entries + 1
  | .held _ => 1
def uptoBulkAll {H : Type} : List (DataW H) → Nat
  | [] => 0
  | d :: r => uptoBulk d + uptoBulkAll r
def uptoBulkEntries {H : Type} : List (Lit × DataW H) → Nat
  | [] => 0
  | x :: r => uptoBulkEntry x + uptoBulkEntries r
def uptoBulkEntry {H : Type} : Lit × DataW H → Nat
  | (.string bytes, d) => bytes.length + uptoBulk d + 1
  | (_, d) => uptoBulk d + 1
 end
def uptoSmall : (H : Type) → List (DataW H) → Bool := fun _ ds => decide (uptoBulkAll ds ≤ 1048576)
def OpenSpec.upto (s : _root_.Go.ChangeSpec) : _root_.Go.OpenSpec := { _root_.Go.OpenSpec.ofChange s with cond := some uptoSmall }

/-- 'watermeetlaw11.SeqsLooks', WHERE WHAT IT READS IS OF BULK AT MOST 1048576: true; the input reads as it did. -/
def seqsLooksUptoRow : OpenClaim := { program := "ytfejamdfhbamcaa", sum := "b8148dedca1ae871f1e25a316a64b8525611c1795505e91fba48d2572ef37e1f", func := "watermeet/watermeetlaw11.SeqsLooks", spec := "seqsLooks", inPlace := ["slices.overlaps[watermeet/api.Prod]"], unfollowed := true, recurses := true, plainKeys := false, apart := false, narrowed := true }
def SeqsLooksUptoSaid : Prop := seqsLooksUptoRow.holds Try.pinned (OpenSpec.upto seqsLooksSpec)

/-- 'watermeetlaw11.SeqsPuts', WHERE WHAT IT READS IS OF BULK AT MOST 1048576: true; the input reads as it did. -/
def seqsPutsUptoRow : OpenClaim := { program := "ytfejamdfhbamcaa", sum := "b8148dedca1ae871f1e25a316a64b8525611c1795505e91fba48d2572ef37e1f", func := "watermeet/watermeetlaw11.SeqsPuts", spec := "seqsPuts", inPlace := ["slices.overlaps[watermeet/api.Prod]"], unfollowed := true, recurses := true, plainKeys := false, apart := false, narrowed := true }
def SeqsPutsUptoSaid : Prop := seqsPutsUptoRow.holds Try.pinned (OpenSpec.upto seqsPutsSpec)

/-- 'watermeetlaw11.SeqsOfs', WHERE WHAT IT READS IS OF BULK AT MOST 1048576: true; the input reads as it did. -/
def seqsOfsUptoRow : OpenClaim := { program := "ytfejamdfhbamcaa", sum := "b8148dedca1ae871f1e25a316a64b8525611c1795505e91fba48d2572ef37e1f", func := "watermeet/watermeetlaw11.SeqsOfs", spec := "seqsOfs", inPlace := ["slices.overlaps[watermeet/api.Prod]"], unfollowed := true, recurses := true, plainKeys := false, apart := false, narrowed := true }
def SeqsOfsUptoSaid : Prop := seqsOfsUptoRow.holds Try.pinned (OpenSpec.upto seqsOfsSpec)

/-- 'watermeetlaw11.SeqsSaves', WHERE WHAT IT READS IS OF BULK AT MOST 1048576: true; the input reads as it did. -/
def seqsSavesUptoRow : OpenClaim := { program := "ytfejamdfhbamcaa", sum := "b8148dedca1ae871f1e25a316a64b8525611c1795505e91fba48d2572ef37e1f", func := "watermeet/watermeetlaw11.SeqsSaves", spec := "seqsSaves", inPlace := ["slices.overlaps[watermeet/api.Prod]"], unfollowed := true, recurses := true, plainKeys := false, apart := false, narrowed := true }
def SeqsSavesUptoSaid : Prop := seqsSavesUptoRow.holds Try.pinned (OpenSpec.upto seqsSavesSpec)

/-- 'watermeetlaw11.SeqsBack', WHERE WHAT IT READS IS OF BULK AT MOST 1048576: true; the input reads as it did. -/
def seqsBackUptoRow : OpenClaim := { program := "ytfejamdfhbamcaa", sum := "b8148dedca1ae871f1e25a316a64b8525611c1795505e91fba48d2572ef37e1f", func := "watermeet/watermeetlaw11.SeqsBack", spec := "seqsBack", inPlace := ["slices.overlaps[watermeet/api.Prod]"], unfollowed := true, recurses := true, plainKeys := false, apart := false, narrowed := true }
def SeqsBackUptoSaid : Prop := seqsBackUptoRow.holds Try.pinned (OpenSpec.upto seqsBackSpec)

/-- 'watermeetlaw11.SeqsTwice', WHERE WHAT IT READS IS OF BULK AT MOST 1048576: true; the input reads as it did. -/
def seqsTwiceUptoRow : OpenClaim := { program := "ytfejamdfhbamcaa", sum := "b8148dedca1ae871f1e25a316a64b8525611c1795505e91fba48d2572ef37e1f", func := "watermeet/watermeetlaw11.SeqsTwice", spec := "seqsTwice", inPlace := ["slices.overlaps[watermeet/api.Prod]"], unfollowed := true, recurses := true, plainKeys := false, apart := false, narrowed := true }
def SeqsTwiceUptoSaid : Prop := seqsTwiceUptoRow.holds Try.pinned (OpenSpec.upto seqsTwiceSpec)

/-- 'watermeetlaw11.SeqsFences', WHERE WHAT IT READS IS OF BULK AT MOST 1048576: true; the input reads as it did. -/
def seqsFencesUptoRow : OpenClaim := { program := "ytfejamdfhbamcaa", sum := "b8148dedca1ae871f1e25a316a64b8525611c1795505e91fba48d2572ef37e1f", func := "watermeet/watermeetlaw11.SeqsFences", spec := "seqsFences", inPlace := ["slices.overlaps[watermeet/api.Prod]"], unfollowed := true, recurses := true, plainKeys := false, apart := false, narrowed := true }
def SeqsFencesUptoSaid : Prop := seqsFencesUptoRow.holds Try.pinned (OpenSpec.upto seqsFencesSpec)

/-- 'watermeetlaw11.SeqsOthers', WHERE WHAT IT READS IS OF BULK AT MOST 1048576: true; the input reads as it did. -/
def seqsOthersUptoRow : OpenClaim := { program := "ytfejamdfhbamcaa", sum := "b8148dedca1ae871f1e25a316a64b8525611c1795505e91fba48d2572ef37e1f", func := "watermeet/watermeetlaw11.SeqsOthers", spec := "seqsOthers", inPlace := ["slices.overlaps[watermeet/api.Prod]"], unfollowed := true, recurses := true, plainKeys := false, apart := false, narrowed := true }
def SeqsOthersUptoSaid : Prop := seqsOthersUptoRow.holds Try.pinned (OpenSpec.upto seqsOthersSpec)

/-- 'watermeetlaw11.SeqsOnce', WHERE WHAT IT READS IS OF BULK AT MOST 1048576: true; the input reads as it did. -/
def seqsOnceUptoRow : OpenClaim := { program := "ytfejamdfhbamcaa", sum := "b8148dedca1ae871f1e25a316a64b8525611c1795505e91fba48d2572ef37e1f", func := "watermeet/watermeetlaw11.SeqsOnce", spec := "seqsOnce", inPlace := ["slices.overlaps[watermeet/api.Prod]"], unfollowed := true, recurses := true, plainKeys := false, apart := false, narrowed := true }
def SeqsOnceUptoSaid : Prop := seqsOnceUptoRow.holds Try.pinned (OpenSpec.upto seqsOnceSpec)

/-- 'watermeetlaw23.GroupJoins', WHERE WHAT IT READS IS OF BULK AT MOST 1048576: true; the input reads as it did. -/
def groupJoinsUptoRow : OpenClaim := { program := "ytfejamdfhbamcaa", sum := "b8148dedca1ae871f1e25a316a64b8525611c1795505e91fba48d2572ef37e1f", func := "watermeet/watermeetlaw23.GroupJoins", spec := "groupJoins", inPlace := ["internal/bytealg.abigen_runtime_cmpstring", "slices.overlaps[watermeet/api.Member]"], unfollowed := true, recurses := true, plainKeys := false, apart := false, narrowed := true }
def GroupJoinsUptoSaid : Prop := groupJoinsUptoRow.holds Try.pinned (OpenSpec.upto groupJoinsSpec)

/-- 'watermeetlaw23.GroupRounds', WHERE WHAT IT READS IS OF BULK AT MOST 1048576: true; the input reads as it did. -/
def groupRoundsUptoRow : OpenClaim := { program := "ytfejamdfhbamcaa", sum := "b8148dedca1ae871f1e25a316a64b8525611c1795505e91fba48d2572ef37e1f", func := "watermeet/watermeetlaw23.GroupRounds", spec := "groupRounds", inPlace := ["internal/bytealg.abigen_runtime_cmpstring", "slices.overlaps[watermeet/api.Member]"], unfollowed := true, recurses := true, plainKeys := false, apart := false, narrowed := true }
def GroupRoundsUptoSaid : Prop := groupRoundsUptoRow.holds Try.pinned (OpenSpec.upto groupRoundsSpec)

/-- 'watermeetlaw23.GroupStays', WHERE WHAT IT READS IS OF BULK AT MOST 1048576: true; the input reads as it did. -/
def groupStaysUptoRow : OpenClaim := { program := "ytfejamdfhbamcaa", sum := "b8148dedca1ae871f1e25a316a64b8525611c1795505e91fba48d2572ef37e1f", func := "watermeet/watermeetlaw23.GroupStays", spec := "groupStays", inPlace := ["internal/bytealg.abigen_runtime_cmpstring", "slices.overlaps[watermeet/api.Member]"], unfollowed := true, recurses := true, plainKeys := false, apart := false, narrowed := true }
def GroupStaysUptoSaid : Prop := groupStaysUptoRow.holds Try.pinned (OpenSpec.upto groupStaysSpec)

/-- 'watermeetlaw23.GroupTicks', WHERE WHAT IT READS IS OF BULK AT MOST 1048576: true; the input reads as it did. -/
def groupTicksUptoRow : OpenClaim := { program := "ytfejamdfhbamcaa", sum := "b8148dedca1ae871f1e25a316a64b8525611c1795505e91fba48d2572ef37e1f", func := "watermeet/watermeetlaw23.GroupTicks", spec := "groupTicks", inPlace := ["internal/bytealg.abigen_runtime_cmpstring", "slices.overlaps[watermeet/api.Member]"], unfollowed := true, recurses := true, plainKeys := false, apart := false, narrowed := true }
def GroupTicksUptoSaid : Prop := groupTicksUptoRow.holds Try.pinned (OpenSpec.upto groupTicksSpec)

/-- 'watermeetlaw23.GroupApart', WHERE WHAT IT READS IS OF BULK AT MOST 1048576: true; the input reads as it did. -/
def groupApartUptoRow : OpenClaim := { program := "ytfejamdfhbamcaa", sum := "b8148dedca1ae871f1e25a316a64b8525611c1795505e91fba48d2572ef37e1f", func := "watermeet/watermeetlaw23.GroupApart", spec := "groupApart", inPlace := ["internal/bytealg.abigen_runtime_cmpstring", "slices.overlaps[watermeet/api.Member]"], unfollowed := true, recurses := true, plainKeys := false, apart := false, narrowed := true }
def GroupApartUptoSaid : Prop := groupApartUptoRow.holds Try.pinned (OpenSpec.upto groupApartSpec)

/-- 'watermeetlaw23.GroupShared', WHERE WHAT IT READS IS OF BULK AT MOST 1048576: true; the input reads as it did. -/
def groupSharedUptoRow : OpenClaim := { program := "ytfejamdfhbamcaa", sum := "b8148dedca1ae871f1e25a316a64b8525611c1795505e91fba48d2572ef37e1f", func := "watermeet/watermeetlaw23.GroupShared", spec := "groupShared", inPlace := ["internal/bytealg.abigen_runtime_cmpstring", "slices.overlaps[watermeet/api.Member]"], unfollowed := true, recurses := true, plainKeys := false, apart := false, narrowed := true }
def GroupSharedUptoSaid : Prop := groupSharedUptoRow.holds Try.pinned (OpenSpec.upto groupSharedSpec)

end Rows
end Go.Proofs.Ytfejamdfhbamcaa

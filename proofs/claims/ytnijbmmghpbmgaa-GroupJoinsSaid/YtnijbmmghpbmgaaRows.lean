/-
  No cell of these rows narrows 'for every input' (looked for: loops, veiled, ifaces, maps, wideKeys, modest, calm, conditions, laid).
  DERIVED. THE GIVEN ROWS OF THIS SEAT. 6 by the template 'for every input the law returns true; each argument reads behind the call as it read before'; 0 by the template 'total and deterministic' (their statements: YtnijbmmghpbmgaaTotals.lean).
  GIVEN WITH THE SEED: the statements are not yours to turn. If you find one false, say at which input.
  Laid BY PROGRAM, IN A SANDBOX (cutbox-rows.mjs): the forced cells as the released guide's own fill.sh prints them over the translation 58f21ce79320726e… (all of the seat's roots in one cut). By AI agents, Wed Nov 11 2026. No macro, syntax, notation, axiom, sorry.
-/
import Derived.Test.YtnijbmmghpbmgaaChecked
import GoSem.Claim
import GoSem.ClaimJoined
import GoSem.ClaimMapViews
import Derived.JoinedTies
import Derived.KernelRfl
namespace Go.Proofs.Ytnijbmmghpbmgaa
/- THE CELL 'sum', in the pinned program and in every row, IS THE sha256 OF THE DUMP (.gsa) THAT YtnijbmmghpbmgaaProg.lean LOADS. Nothing in Lean hashes anything: it is a label: what it is worth is what the hold of that sum in a sandbox is worth. -/
noncomputable def Try.pinned : Pinned := { name := "ytnijbmmghpbmgaa", sum := "58f21ce79320726e5dcba4000356067d4de97f81d4432530a4ddbf4d3b89f617", checked := Try.checked }
namespace Rows
def none {H : Type} : Left H := { results := [], args := [] }

/-- 'watermeetlaw23.GroupJoins': WHATEVER THE INPUT: true; the input reads as it did. -/
def groupJoinsSpec : ChangeSpec := { name := "groupJoins", fn := fun _ => fun
  | [d1, d2, d3, d4] => { results := [.lit (.bool true)], args := [d1, d2, d3, d4] }
  | _ => none }
def groupJoinsRow : OpenClaim := { program := "ytnijbmmghpbmgaa", sum := "58f21ce79320726e5dcba4000356067d4de97f81d4432530a4ddbf4d3b89f617", func := "watermeet/watermeetlaw23.GroupJoins", spec := "groupJoins", inPlace := ["internal/bytealg.abigen_runtime_cmpstring", "slices.overlaps[watermeet/api.Member]"], unfollowed := true, recurses := true, plainKeys := false, apart := false }
def GroupJoinsSaid : Prop := groupJoinsRow.holds Try.pinned (OpenSpec.ofChange groupJoinsSpec)

/-- ITS FALSE NEIGHBOUR: 'it returns false'. Refute it at one input. -/
def groupJoinsWrong : ChangeSpec := { name := "groupJoins", fn := fun _ => fun
  | [d1, d2, d3, d4] => { results := [.lit (.bool false)], args := [d1, d2, d3, d4] }
  | _ => none }
def GroupJoinsWrongFalsely : Prop := groupJoinsRow.holds Try.pinned (OpenSpec.ofChange groupJoinsWrong)

/-- 'watermeetlaw23.GroupRounds': WHATEVER THE INPUT: true; the input reads as it did. -/
def groupRoundsSpec : ChangeSpec := { name := "groupRounds", fn := fun _ => fun
  | [d1, d2, d3] => { results := [.lit (.bool true)], args := [d1, d2, d3] }
  | _ => none }
def groupRoundsRow : OpenClaim := { program := "ytnijbmmghpbmgaa", sum := "58f21ce79320726e5dcba4000356067d4de97f81d4432530a4ddbf4d3b89f617", func := "watermeet/watermeetlaw23.GroupRounds", spec := "groupRounds", inPlace := ["internal/bytealg.abigen_runtime_cmpstring", "slices.overlaps[watermeet/api.Member]"], unfollowed := true, recurses := true, plainKeys := false, apart := false }
def GroupRoundsSaid : Prop := groupRoundsRow.holds Try.pinned (OpenSpec.ofChange groupRoundsSpec)

/-- ITS FALSE NEIGHBOUR: 'it returns false'. Refute it at one input. -/
def groupRoundsWrong : ChangeSpec := { name := "groupRounds", fn := fun _ => fun
  | [d1, d2, d3] => { results := [.lit (.bool false)], args := [d1, d2, d3] }
  | _ => none }
def GroupRoundsWrongFalsely : Prop := groupRoundsRow.holds Try.pinned (OpenSpec.ofChange groupRoundsWrong)

/-- 'watermeetlaw23.GroupStays': WHATEVER THE INPUT: true; the input reads as it did. -/
def groupStaysSpec : ChangeSpec := { name := "groupStays", fn := fun _ => fun
  | [d1, d2, d3, d4] => { results := [.lit (.bool true)], args := [d1, d2, d3, d4] }
  | _ => none }
def groupStaysRow : OpenClaim := { program := "ytnijbmmghpbmgaa", sum := "58f21ce79320726e5dcba4000356067d4de97f81d4432530a4ddbf4d3b89f617", func := "watermeet/watermeetlaw23.GroupStays", spec := "groupStays", inPlace := ["internal/bytealg.abigen_runtime_cmpstring", "slices.overlaps[watermeet/api.Member]"], unfollowed := true, recurses := true, plainKeys := false, apart := false }
def GroupStaysSaid : Prop := groupStaysRow.holds Try.pinned (OpenSpec.ofChange groupStaysSpec)

/-- ITS FALSE NEIGHBOUR: 'it returns false'. Refute it at one input. -/
def groupStaysWrong : ChangeSpec := { name := "groupStays", fn := fun _ => fun
  | [d1, d2, d3, d4] => { results := [.lit (.bool false)], args := [d1, d2, d3, d4] }
  | _ => none }
def GroupStaysWrongFalsely : Prop := groupStaysRow.holds Try.pinned (OpenSpec.ofChange groupStaysWrong)

/-- 'watermeetlaw23.GroupTicks': WHATEVER THE INPUT: true; the input reads as it did. -/
def groupTicksSpec : ChangeSpec := { name := "groupTicks", fn := fun _ => fun
  | [d1, d2, d3] => { results := [.lit (.bool true)], args := [d1, d2, d3] }
  | _ => none }
def groupTicksRow : OpenClaim := { program := "ytnijbmmghpbmgaa", sum := "58f21ce79320726e5dcba4000356067d4de97f81d4432530a4ddbf4d3b89f617", func := "watermeet/watermeetlaw23.GroupTicks", spec := "groupTicks", inPlace := ["internal/bytealg.abigen_runtime_cmpstring", "slices.overlaps[watermeet/api.Member]"], unfollowed := true, recurses := true, plainKeys := false, apart := false }
def GroupTicksSaid : Prop := groupTicksRow.holds Try.pinned (OpenSpec.ofChange groupTicksSpec)

/-- ITS FALSE NEIGHBOUR: 'it returns false'. Refute it at one input. -/
def groupTicksWrong : ChangeSpec := { name := "groupTicks", fn := fun _ => fun
  | [d1, d2, d3] => { results := [.lit (.bool false)], args := [d1, d2, d3] }
  | _ => none }
def GroupTicksWrongFalsely : Prop := groupTicksRow.holds Try.pinned (OpenSpec.ofChange groupTicksWrong)

/-- 'watermeetlaw23.GroupApart': WHATEVER THE INPUT: true; the input reads as it did. -/
def groupApartSpec : ChangeSpec := { name := "groupApart", fn := fun _ => fun
  | [d1, d2] => { results := [.lit (.bool true)], args := [d1, d2] }
  | _ => none }
def groupApartRow : OpenClaim := { program := "ytnijbmmghpbmgaa", sum := "58f21ce79320726e5dcba4000356067d4de97f81d4432530a4ddbf4d3b89f617", func := "watermeet/watermeetlaw23.GroupApart", spec := "groupApart", inPlace := ["internal/bytealg.abigen_runtime_cmpstring", "slices.overlaps[watermeet/api.Member]"], unfollowed := true, recurses := true, plainKeys := false, apart := false }
def GroupApartSaid : Prop := groupApartRow.holds Try.pinned (OpenSpec.ofChange groupApartSpec)

/-- ITS FALSE NEIGHBOUR: 'it returns false'. Refute it at one input. -/
def groupApartWrong : ChangeSpec := { name := "groupApart", fn := fun _ => fun
  | [d1, d2] => { results := [.lit (.bool false)], args := [d1, d2] }
  | _ => none }
def GroupApartWrongFalsely : Prop := groupApartRow.holds Try.pinned (OpenSpec.ofChange groupApartWrong)

/-- 'watermeetlaw23.GroupShared': WHATEVER THE INPUT: true; the input reads as it did. -/
def groupSharedSpec : ChangeSpec := { name := "groupShared", fn := fun _ => fun
  | [d1, d2, d3] => { results := [.lit (.bool true)], args := [d1, d2, d3] }
  | _ => none }
def groupSharedRow : OpenClaim := { program := "ytnijbmmghpbmgaa", sum := "58f21ce79320726e5dcba4000356067d4de97f81d4432530a4ddbf4d3b89f617", func := "watermeet/watermeetlaw23.GroupShared", spec := "groupShared", inPlace := ["internal/bytealg.abigen_runtime_cmpstring", "slices.overlaps[watermeet/api.Member]"], unfollowed := true, recurses := true, plainKeys := false, apart := false }
def GroupSharedSaid : Prop := groupSharedRow.holds Try.pinned (OpenSpec.ofChange groupSharedSpec)

/-- ITS FALSE NEIGHBOUR: 'it returns false'. Refute it at one input. -/
def groupSharedWrong : ChangeSpec := { name := "groupShared", fn := fun _ => fun
  | [d1, d2, d3] => { results := [.lit (.bool false)], args := [d1, d2, d3] }
  | _ => none }
def GroupSharedWrongFalsely : Prop := groupSharedRow.holds Try.pinned (OpenSpec.ofChange groupSharedWrong)

/- THE SECOND FORM. 'bulk': how many values and letters a reading holds, each counted each time it is reached (what is shared counts as often as it is met; a slice's spare places count too). A statement '..UptoSaid' is the law's where the arguments, and the package variables that the reading takes, are together of bulk at most 1048576: NARROWER than '..Said'. Prove '..Said' where nothing that the law and all that it calls make is longer than what came in: it says more and counts as full. Else prove '..UptoSaid'. A law counts once. -/
mutual
def uptoBulk {H : Type} : DataW H → Nat
  | .lit (.string bytes) => bytes.length + 1
  | .lit _ => 1
  | .nil => 1
  | .ptr d => uptoBulk d + 1
  | .slice elems spare => uptoBulkAll elems + uptoBulkAll spare + 1
  | .agg parts => uptoBulkAll parts + 1
  | .iface _ d => uptoBulk d + 1
  | .map entries => uptoBulkEntries entries + 1
  | .held _ => 1
def uptoBulkAll {H : Type} : List (DataW H) → Nat
  | [] => 0
  | d :: r => uptoBulk d + uptoBulkAll r
def uptoBulkEntries {H : Type} : List (Lit × DataW H) → Nat
  | [] => 0
  | x :: r => uptoBulkEntry x + uptoBulkEntries r
def uptoBulkEntry {H : Type} : Lit × DataW H → Nat
  | (.string bytes, d) => bytes.length + uptoBulk d + 1
  | (_, d) => uptoBulk d + 1
 end
def uptoSmall : (H : Type) → List (DataW H) → Bool := fun _ ds => decide (uptoBulkAll ds ≤ 1048576)
def OpenSpec.upto (s : _root_.Go.ChangeSpec) : _root_.Go.OpenSpec := { _root_.Go.OpenSpec.ofChange s with cond := some uptoSmall }

/-- 'watermeetlaw23.GroupJoins', WHERE WHAT IT READS IS OF BULK AT MOST 1048576: true; the input reads as it did. -/
def groupJoinsUptoRow : OpenClaim := { program := "ytnijbmmghpbmgaa", sum := "58f21ce79320726e5dcba4000356067d4de97f81d4432530a4ddbf4d3b89f617", func := "watermeet/watermeetlaw23.GroupJoins", spec := "groupJoins", inPlace := ["internal/bytealg.abigen_runtime_cmpstring", "slices.overlaps[watermeet/api.Member]"], unfollowed := true, recurses := true, plainKeys := false, apart := false, narrowed := true }
def GroupJoinsUptoSaid : Prop := groupJoinsUptoRow.holds Try.pinned (OpenSpec.upto groupJoinsSpec)

/-- 'watermeetlaw23.GroupRounds', WHERE WHAT IT READS IS OF BULK AT MOST 1048576: true; the input reads as it did. -/
def groupRoundsUptoRow : OpenClaim := { program := "ytnijbmmghpbmgaa", sum := "58f21ce79320726e5dcba4000356067d4de97f81d4432530a4ddbf4d3b89f617", func := "watermeet/watermeetlaw23.GroupRounds", spec := "groupRounds", inPlace := ["internal/bytealg.abigen_runtime_cmpstring", "slices.overlaps[watermeet/api.Member]"], unfollowed := true, recurses := true, plainKeys := false, apart := false, narrowed := true }
def GroupRoundsUptoSaid : Prop := groupRoundsUptoRow.holds Try.pinned (OpenSpec.upto groupRoundsSpec)

/-- 'watermeetlaw23.GroupStays', WHERE WHAT IT READS IS OF BULK AT MOST 1048576: true; the input reads as it did. -/
def groupStaysUptoRow : OpenClaim := { program := "ytnijbmmghpbmgaa", sum := "58f21ce79320726e5dcba4000356067d4de97f81d4432530a4ddbf4d3b89f617", func := "watermeet/watermeetlaw23.GroupStays", spec := "groupStays", inPlace := ["internal/bytealg.abigen_runtime_cmpstring", "slices.overlaps[watermeet/api.Member]"], unfollowed := true, recurses := true, plainKeys := false, apart := false, narrowed := true }
def GroupStaysUptoSaid : Prop := groupStaysUptoRow.holds Try.pinned (OpenSpec.upto groupStaysSpec)

/-- 'watermeetlaw23.GroupTicks', WHERE WHAT IT READS IS OF BULK AT MOST 1048576: true; the input reads as it did. -/
def groupTicksUptoRow : OpenClaim := { program := "ytnijbmmghpbmgaa", sum := "58f21ce79320726e5dcba4000356067d4de97f81d4432530a4ddbf4d3b89f617", func := "watermeet/watermeetlaw23.GroupTicks", spec := "groupTicks", inPlace := ["internal/bytealg.abigen_runtime_cmpstring", "slices.overlaps[watermeet/api.Member]"], unfollowed := true, recurses := true, plainKeys := false, apart := false, narrowed := true }
def GroupTicksUptoSaid : Prop := groupTicksUptoRow.holds Try.pinned (OpenSpec.upto groupTicksSpec)

/-- 'watermeetlaw23.GroupApart', WHERE WHAT IT READS IS OF BULK AT MOST 1048576: true; the input reads as it did. -/
def groupApartUptoRow : OpenClaim := { program := "ytnijbmmghpbmgaa", sum := "58f21ce79320726e5dcba4000356067d4de97f81d4432530a4ddbf4d3b89f617", func := "watermeet/watermeetlaw23.GroupApart", spec := "groupApart", inPlace := ["internal/bytealg.abigen_runtime_cmpstring", "slices.overlaps[watermeet/api.Member]"], unfollowed := true, recurses := true, plainKeys := false, apart := false, narrowed := true }
def GroupApartUptoSaid : Prop := groupApartUptoRow.holds Try.pinned (OpenSpec.upto groupApartSpec)

/-- 'watermeetlaw23.GroupShared', WHERE WHAT IT READS IS OF BULK AT MOST 1048576: true; the input reads as it did. -/
def groupSharedUptoRow : OpenClaim := { program := "ytnijbmmghpbmgaa", sum := "58f21ce79320726e5dcba4000356067d4de97f81d4432530a4ddbf4d3b89f617", func := "watermeet/watermeetlaw23.GroupShared", spec := "groupShared", inPlace := ["internal/bytealg.abigen_runtime_cmpstring", "slices.overlaps[watermeet/api.Member]"], unfollowed := true, recurses := true, plainKeys := false, apart := false, narrowed := true }
def GroupSharedUptoSaid : Prop := groupSharedUptoRow.holds Try.pinned (OpenSpec.upto groupSharedSpec)

end Rows
end Go.Proofs.Ytnijbmmghpbmgaa

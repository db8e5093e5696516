/-
  No cell of these rows narrows 'for every input' (looked for: loops, veiled, ifaces, maps, wideKeys, modest, calm, conditions, laid).
  DERIVED. THE GIVEN ROWS OF THIS SEAT. 8 by the template 'for every input the law returns true; each argument reads behind the call as it read before'; 0 by the template 'total and deterministic' (their statements: YtapfmndcjcdcjaaTotals.lean).
  GIVEN WITH THE SEED: the statements are not yours to turn. If you find one false, say at which input.
  Laid BY PROGRAM, IN A SANDBOX (cutbox-rows.mjs): the forced cells as the released guide's own fill.sh prints them over the translation f8b6205b78eb0c9f… (all of the seat's roots in one cut). By AI agents, Wed Nov 11 2026. No macro, syntax, notation, axiom, sorry.
-/
import Derived.Test.YtapfmndcjcdcjaaChecked
import GoSem.Claim
import GoSem.ClaimJoined
import GoSem.ClaimMapViews
import Derived.JoinedTies
import Derived.KernelRfl
namespace Go.Proofs.Ytapfmndcjcdcjaa
/- THE CELL 'sum', in the pinned program and in every row, IS THE sha256 OF THE DUMP (.gsa) THAT YtapfmndcjcdcjaaProg.lean LOADS. Nothing in Lean hashes anything: it is a label: what it is worth is what the hold of that sum in a sandbox is worth. -/
noncomputable def Try.pinned : Pinned := { name := "ytapfmndcjcdcjaa", sum := "f8b6205b78eb0c9f47ffda8bc4ece556ca6601eac207a6867fdaa4ff348abb1c", checked := Try.checked }
namespace Rows
def none {H : Type} : Left H := { results := [], args := [] }

/-- 'watermeetlaw22.AssignShares': WHATEVER THE INPUT: true; the input reads as it did. -/
def assignSharesSpec : ChangeSpec := { name := "assignShares", fn := fun _ => fun
  | [d1, d2] => { results := [.lit (.bool true)], args := [d1, d2] }
  | _ => none }
def assignSharesRow : OpenClaim := { program := "ytapfmndcjcdcjaa", sum := "f8b6205b78eb0c9f47ffda8bc4ece556ca6601eac207a6867fdaa4ff348abb1c", func := "watermeet/watermeetlaw22.AssignShares", spec := "assignShares", unfollowed := true, recurses := true, plainKeys := false, apart := false }
def AssignSharesSaid : Prop := assignSharesRow.holds Try.pinned (OpenSpec.ofChange assignSharesSpec)

/-- ITS FALSE NEIGHBOUR: 'it returns false'. Refute it at one input. -/
def assignSharesWrong : ChangeSpec := { name := "assignShares", fn := fun _ => fun
  | [d1, d2] => { results := [.lit (.bool false)], args := [d1, d2] }
  | _ => none }
def AssignSharesWrongFalsely : Prop := assignSharesRow.holds Try.pinned (OpenSpec.ofChange assignSharesWrong)

/-- 'watermeetlaw22.AssignOrder': WHATEVER THE INPUT: true; the input reads as it did. -/
def assignOrderSpec : ChangeSpec := { name := "assignOrder", fn := fun _ => fun
  | [d1, d2] => { results := [.lit (.bool true)], args := [d1, d2] }
  | _ => none }
def assignOrderRow : OpenClaim := { program := "ytapfmndcjcdcjaa", sum := "f8b6205b78eb0c9f47ffda8bc4ece556ca6601eac207a6867fdaa4ff348abb1c", func := "watermeet/watermeetlaw22.AssignOrder", spec := "assignOrder", unfollowed := true, recurses := true, plainKeys := false, apart := false }
def AssignOrderSaid : Prop := assignOrderRow.holds Try.pinned (OpenSpec.ofChange assignOrderSpec)

/-- ITS FALSE NEIGHBOUR: 'it returns false'. Refute it at one input. -/
def assignOrderWrong : ChangeSpec := { name := "assignOrder", fn := fun _ => fun
  | [d1, d2] => { results := [.lit (.bool false)], args := [d1, d2] }
  | _ => none }
def AssignOrderWrongFalsely : Prop := assignOrderRow.holds Try.pinned (OpenSpec.ofChange assignOrderWrong)

/-- 'watermeetlaw22.AssignMore': WHATEVER THE INPUT: true; the input reads as it did. -/
def assignMoreSpec : ChangeSpec := { name := "assignMore", fn := fun _ => fun
  | [d1, d2, d3] => { results := [.lit (.bool true)], args := [d1, d2, d3] }
  | _ => none }
def assignMoreRow : OpenClaim := { program := "ytapfmndcjcdcjaa", sum := "f8b6205b78eb0c9f47ffda8bc4ece556ca6601eac207a6867fdaa4ff348abb1c", func := "watermeet/watermeetlaw22.AssignMore", spec := "assignMore", unfollowed := true, recurses := true, plainKeys := false, apart := false }
def AssignMoreSaid : Prop := assignMoreRow.holds Try.pinned (OpenSpec.ofChange assignMoreSpec)

/-- ITS FALSE NEIGHBOUR: 'it returns false'. Refute it at one input. -/
def assignMoreWrong : ChangeSpec := { name := "assignMore", fn := fun _ => fun
  | [d1, d2, d3] => { results := [.lit (.bool false)], args := [d1, d2, d3] }
  | _ => none }
def AssignMoreWrongFalsely : Prop := assignMoreRow.holds Try.pinned (OpenSpec.ofChange assignMoreWrong)

/-- 'watermeetlaw22.AssignStays': WHATEVER THE INPUT: true; the input reads as it did. -/
def assignStaysSpec : ChangeSpec := { name := "assignStays", fn := fun _ => fun
  | [d1, d2] => { results := [.lit (.bool true)], args := [d1, d2] }
  | _ => none }
def assignStaysRow : OpenClaim := { program := "ytapfmndcjcdcjaa", sum := "f8b6205b78eb0c9f47ffda8bc4ece556ca6601eac207a6867fdaa4ff348abb1c", func := "watermeet/watermeetlaw22.AssignStays", spec := "assignStays", unfollowed := true, recurses := true, plainKeys := false, apart := false }
def AssignStaysSaid : Prop := assignStaysRow.holds Try.pinned (OpenSpec.ofChange assignStaysSpec)

/-- ITS FALSE NEIGHBOUR: 'it returns false'. Refute it at one input. -/
def assignStaysWrong : ChangeSpec := { name := "assignStays", fn := fun _ => fun
  | [d1, d2] => { results := [.lit (.bool false)], args := [d1, d2] }
  | _ => none }
def AssignStaysWrongFalsely : Prop := assignStaysRow.holds Try.pinned (OpenSpec.ofChange assignStaysWrong)

/-- 'watermeetlaw22.AssignRounds': WHATEVER THE INPUT: true; the input reads as it did. -/
def assignRoundsSpec : ChangeSpec := { name := "assignRounds", fn := fun _ => fun
  | [d1, d2] => { results := [.lit (.bool true)], args := [d1, d2] }
  | _ => none }
def assignRoundsRow : OpenClaim := { program := "ytapfmndcjcdcjaa", sum := "f8b6205b78eb0c9f47ffda8bc4ece556ca6601eac207a6867fdaa4ff348abb1c", func := "watermeet/watermeetlaw22.AssignRounds", spec := "assignRounds", unfollowed := true, recurses := true, plainKeys := false, apart := false }
def AssignRoundsSaid : Prop := assignRoundsRow.holds Try.pinned (OpenSpec.ofChange assignRoundsSpec)

/-- ITS FALSE NEIGHBOUR: 'it returns false'. Refute it at one input. -/
def assignRoundsWrong : ChangeSpec := { name := "assignRounds", fn := fun _ => fun
  | [d1, d2] => { results := [.lit (.bool false)], args := [d1, d2] }
  | _ => none }
def AssignRoundsWrongFalsely : Prop := assignRoundsRow.holds Try.pinned (OpenSpec.ofChange assignRoundsWrong)

/-- 'watermeetlaw22.AssignTwo': WHATEVER THE INPUT: true; the input reads as it did. -/
def assignTwoSpec : ChangeSpec := { name := "assignTwo", fn := fun _ => fun
  | [d1, d2] => { results := [.lit (.bool true)], args := [d1, d2] }
  | _ => none }
def assignTwoRow : OpenClaim := { program := "ytapfmndcjcdcjaa", sum := "f8b6205b78eb0c9f47ffda8bc4ece556ca6601eac207a6867fdaa4ff348abb1c", func := "watermeet/watermeetlaw22.AssignTwo", spec := "assignTwo", unfollowed := true, recurses := true, plainKeys := false, apart := false }
def AssignTwoSaid : Prop := assignTwoRow.holds Try.pinned (OpenSpec.ofChange assignTwoSpec)

/-- ITS FALSE NEIGHBOUR: 'it returns false'. Refute it at one input. -/
def assignTwoWrong : ChangeSpec := { name := "assignTwo", fn := fun _ => fun
  | [d1, d2] => { results := [.lit (.bool false)], args := [d1, d2] }
  | _ => none }
def AssignTwoWrongFalsely : Prop := assignTwoRow.holds Try.pinned (OpenSpec.ofChange assignTwoWrong)

/-- 'watermeetlaw22.AssignEven': WHATEVER THE INPUT: true; the input reads as it did. -/
def assignEvenSpec : ChangeSpec := { name := "assignEven", fn := fun _ => fun
  | [d1, d2] => { results := [.lit (.bool true)], args := [d1, d2] }
  | _ => none }
def assignEvenRow : OpenClaim := { program := "ytapfmndcjcdcjaa", sum := "f8b6205b78eb0c9f47ffda8bc4ece556ca6601eac207a6867fdaa4ff348abb1c", func := "watermeet/watermeetlaw22.AssignEven", spec := "assignEven", unfollowed := true, recurses := true, plainKeys := false, apart := false }
def AssignEvenSaid : Prop := assignEvenRow.holds Try.pinned (OpenSpec.ofChange assignEvenSpec)

/-- ITS FALSE NEIGHBOUR: 'it returns false'. Refute it at one input. -/
def assignEvenWrong : ChangeSpec := { name := "assignEven", fn := fun _ => fun
  | [d1, d2] => { results := [.lit (.bool false)], args := [d1, d2] }
  | _ => none }
def AssignEvenWrongFalsely : Prop := assignEvenRow.holds Try.pinned (OpenSpec.ofChange assignEvenWrong)

/-- 'watermeetlaw22.AssignLooks': WHATEVER THE INPUT: true; the input reads as it did. -/
def assignLooksSpec : ChangeSpec := { name := "assignLooks", fn := fun _ => fun
  | [d1, d2, d3] => { results := [.lit (.bool true)], args := [d1, d2, d3] }
  | _ => none }
def assignLooksRow : OpenClaim := { program := "ytapfmndcjcdcjaa", sum := "f8b6205b78eb0c9f47ffda8bc4ece556ca6601eac207a6867fdaa4ff348abb1c", func := "watermeet/watermeetlaw22.AssignLooks", spec := "assignLooks", unfollowed := true, recurses := true, plainKeys := false, apart := false }
def AssignLooksSaid : Prop := assignLooksRow.holds Try.pinned (OpenSpec.ofChange assignLooksSpec)

/-- ITS FALSE NEIGHBOUR: 'it returns false'. Refute it at one input. -/
def assignLooksWrong : ChangeSpec := { name := "assignLooks", fn := fun _ => fun
  | [d1, d2, d3] => { results := [.lit (.bool false)], args := [d1, d2, d3] }
  | _ => none }
def AssignLooksWrongFalsely : Prop := assignLooksRow.holds Try.pinned (OpenSpec.ofChange assignLooksWrong)

/- THE SECOND FORM. 'bulk': how many values and letters a reading holds, each counted each time it is reached (what is shared counts as often as it is met; a slice's spare places count too). A statement '..UptoSaid' is the law's where the arguments, and the package variables that the reading takes, are together of bulk at most 1048576: NARROWER than '..Said'. Prove '..Said' where nothing that the law and all that it calls make is longer than what came in: it says more and counts as full. Else prove '..UptoSaid'. A law counts once. -/
mutual
def uptoBulk {H : Type} : DataW H → Nat
  | .lit (.string bytes) => bytes.length + 1
  | .lit _ => 1
  | .nil => 1
  | .ptr d => uptoBulk d + 1
  | .slice elems spare => uptoBulkAll elems + uptoBulkAll spare + 1
  | .agg parts => uptoBulkAll parts + 1
  | .iface _ d => uptoBulk d + 1
  | .map entries => uptoBulkEntries entries + 1
  | .held _ => 1
def uptoBulkAll {H : Type} : List (DataW H) → Nat
  | [] => 0
  | d :: r => uptoBulk d + uptoBulkAll r
def uptoBulkEntries {H : Type} : List (Lit × DataW H) → Nat
  | [] => 0
  | x :: r => uptoBulkEntry x + uptoBulkEntries r
def uptoBulkEntry {H : Type} : Lit × DataW H → Nat
  | (.string bytes, d) => bytes.length + uptoBulk d + 1
  | (_, d) => uptoBulk d + 1
 end
def uptoSmall : (H : Type) → List (DataW H) → Bool := fun _ ds => decide (uptoBulkAll ds ≤ 1048576)
def OpenSpec.upto (s : _root_.Go.ChangeSpec) : _root_.Go.OpenSpec := { _root_.Go.OpenSpec.ofChange s with cond := some uptoSmall }

/-- 'watermeetlaw22.AssignShares', WHERE WHAT IT READS IS OF BULK AT MOST 1048576: true; the input reads as it did. -/
def assignSharesUptoRow : OpenClaim := { program := "ytapfmndcjcdcjaa", sum := "f8b6205b78eb0c9f47ffda8bc4ece556ca6601eac207a6867fdaa4ff348abb1c", func := "watermeet/watermeetlaw22.AssignShares", spec := "assignShares", unfollowed := true, recurses := true, plainKeys := false, apart := false, narrowed := true }
def AssignSharesUptoSaid : Prop := assignSharesUptoRow.holds Try.pinned (OpenSpec.upto assignSharesSpec)

/-- 'watermeetlaw22.AssignOrder', WHERE WHAT IT READS IS OF BULK AT MOST 1048576: true; the input reads as it did. -/
def assignOrderUptoRow : OpenClaim := { program := "ytapfmndcjcdcjaa", sum := "f8b6205b78eb0c9f47ffda8bc4ece556ca6601eac207a6867fdaa4ff348abb1c", func := "watermeet/watermeetlaw22.AssignOrder", spec := "assignOrder", unfollowed := true, recurses := true, plainKeys := false, apart := false, narrowed := true }
def AssignOrderUptoSaid : Prop := assignOrderUptoRow.holds Try.pinned (OpenSpec.upto assignOrderSpec)

/-- 'watermeetlaw22.AssignMore', WHERE WHAT IT READS IS OF BULK AT MOST 1048576: true; the input reads as it did. -/
def assignMoreUptoRow : OpenClaim := { program := "ytapfmndcjcdcjaa", sum := "f8b6205b78eb0c9f47ffda8bc4ece556ca6601eac207a6867fdaa4ff348abb1c", func := "watermeet/watermeetlaw22.AssignMore", spec := "assignMore", unfollowed := true, recurses := true, plainKeys := false, apart := false, narrowed := true }
def AssignMoreUptoSaid : Prop := assignMoreUptoRow.holds Try.pinned (OpenSpec.upto assignMoreSpec)

/-- 'watermeetlaw22.AssignStays', WHERE WHAT IT READS IS OF BULK AT MOST 1048576: true; the input reads as it did. -/
def assignStaysUptoRow : OpenClaim := { program := "ytapfmndcjcdcjaa", sum := "f8b6205b78eb0c9f47ffda8bc4ece556ca6601eac207a6867fdaa4ff348abb1c", func := "watermeet/watermeetlaw22.AssignStays", spec := "assignStays", unfollowed := true, recurses := true, plainKeys := false, apart := false, narrowed := true }
def AssignStaysUptoSaid : Prop := assignStaysUptoRow.holds Try.pinned (OpenSpec.upto assignStaysSpec)

/-- 'watermeetlaw22.AssignRounds', WHERE WHAT IT READS IS OF BULK AT MOST 1048576: true; the input reads as it did. -/
def assignRoundsUptoRow : OpenClaim := { program := "ytapfmndcjcdcjaa", sum := "f8b6205b78eb0c9f47ffda8bc4ece556ca6601eac207a6867fdaa4ff348abb1c", func := "watermeet/watermeetlaw22.AssignRounds", spec := "assignRounds", unfollowed := true, recurses := true, plainKeys := false, apart := false, narrowed := true }
def AssignRoundsUptoSaid : Prop := assignRoundsUptoRow.holds Try.pinned (OpenSpec.upto assignRoundsSpec)

/-- 'watermeetlaw22.AssignTwo', WHERE WHAT IT READS IS OF BULK AT MOST 1048576: true; the input reads as it did. -/
def assignTwoUptoRow : OpenClaim := { program := "ytapfmndcjcdcjaa", sum := "f8b6205b78eb0c9f47ffda8bc4ece556ca6601eac207a6867fdaa4ff348abb1c", func := "watermeet/watermeetlaw22.AssignTwo", spec := "assignTwo", unfollowed := true, recurses := true, plainKeys := false, apart := false, narrowed := true }
def AssignTwoUptoSaid : Prop := assignTwoUptoRow.holds Try.pinned (OpenSpec.upto assignTwoSpec)

/-- 'watermeetlaw22.AssignEven', WHERE WHAT IT READS IS OF BULK AT MOST 1048576: true; the input reads as it did. -/
def assignEvenUptoRow : OpenClaim := { program := "ytapfmndcjcdcjaa", sum := "f8b6205b78eb0c9f47ffda8bc4ece556ca6601eac207a6867fdaa4ff348abb1c", func := "watermeet/watermeetlaw22.AssignEven", spec := "assignEven", unfollowed := true, recurses := true, plainKeys := false, apart := false, narrowed := true }
def AssignEvenUptoSaid : Prop := assignEvenUptoRow.holds Try.pinned (OpenSpec.upto assignEvenSpec)

/-- 'watermeetlaw22.AssignLooks', WHERE WHAT IT READS IS OF BULK AT MOST 1048576: true; the input reads as it did. -/
def assignLooksUptoRow : OpenClaim := { program := "ytapfmndcjcdcjaa", sum := "f8b6205b78eb0c9f47ffda8bc4ece556ca6601eac207a6867fdaa4ff348abb1c", func := "watermeet/watermeetlaw22.AssignLooks", spec := "assignLooks", unfollowed := true, recurses := true, plainKeys := false, apart := false, narrowed := true }
def AssignLooksUptoSaid : Prop := assignLooksUptoRow.holds Try.pinned (OpenSpec.upto assignLooksSpec)

end Rows
end Go.Proofs.Ytapfmndcjcdcjaa

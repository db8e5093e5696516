/-
  No cell of these rows narrows 'for every input' (looked for: loops, veiled, ifaces, maps, wideKeys, modest, calm, conditions, laid).
  DERIVED. THE GIVEN ROWS OF THIS SEAT. 6 by the template 'for every input the law returns true; each argument reads behind the call as it read before'; 0 by the template 'total and deterministic' (their statements: YtpinnhemlcpkaaaTotals.lean).
  GIVEN WITH THE SEED: the statements are not yours to turn. If you find one false, say at which input.
  Laid BY PROGRAM, IN A SANDBOX (cutbox-rows.mjs): the forced cells as the released guide's own fill.sh prints them over the translation f8bd8df6979b1de6… (all of the seat's roots in one cut). By AI agents, Wed Nov 11 2026. No macro, syntax, notation, axiom, sorry.
-/
import Derived.Test.YtpinnhemlcpkaaaChecked
import GoSem.Claim
import GoSem.ClaimJoined
import GoSem.ClaimMapViews
import Derived.JoinedTies
import Derived.KernelRfl
namespace Go.Proofs.Ytpinnhemlcpkaaa
/- THE CELL 'sum', in the pinned program and in every row, IS THE sha256 OF THE DUMP (.gsa) THAT YtpinnhemlcpkaaaProg.lean LOADS. Nothing in Lean hashes anything: it is a label: what it is worth is what the hold of that sum in a sandbox is worth. -/
noncomputable def Try.pinned : Pinned := { name := "ytpinnhemlcpkaaa", sum := "f8bd8df6979b1de6a6da56eefd34f0e794c87841dbd243f53d3e41e9e8e0dc88", checked := Try.checked }
namespace Rows
def none {H : Type} : Left H := { results := [], args := [] }

/-- 'watermeetlaw32.AuditOrder': WHATEVER THE INPUT: true; the input reads as it did. -/
def auditOrderSpec : ChangeSpec := { name := "auditOrder", fn := fun _ => fun
  | [d1, d2, d3] => { results := [.lit (.bool true)], args := [d1, d2, d3] }
  | _ => none }
def auditOrderRow : OpenClaim := { program := "ytpinnhemlcpkaaa", sum := "f8bd8df6979b1de6a6da56eefd34f0e794c87841dbd243f53d3e41e9e8e0dc88", func := "watermeet/watermeetlaw32.AuditOrder", spec := "auditOrder", unfollowed := true, recurses := true, plainKeys := false, apart := false }
def AuditOrderSaid : Prop := auditOrderRow.holds Try.pinned (OpenSpec.ofChange auditOrderSpec)

/-- ITS FALSE NEIGHBOUR: 'it returns false'. Refute it at one input. -/
def auditOrderWrong : ChangeSpec := { name := "auditOrder", fn := fun _ => fun
  | [d1, d2, d3] => { results := [.lit (.bool false)], args := [d1, d2, d3] }
  | _ => none }
def AuditOrderWrongFalsely : Prop := auditOrderRow.holds Try.pinned (OpenSpec.ofChange auditOrderWrong)

/-- 'watermeetlaw32.AuditAll': WHATEVER THE INPUT: true; the input reads as it did. -/
def auditAllSpec : ChangeSpec := { name := "auditAll", fn := fun _ => fun
  | [d1, d2, d3, d4, d5] => { results := [.lit (.bool true)], args := [d1, d2, d3, d4, d5] }
  | _ => none }
def auditAllRow : OpenClaim := { program := "ytpinnhemlcpkaaa", sum := "f8bd8df6979b1de6a6da56eefd34f0e794c87841dbd243f53d3e41e9e8e0dc88", func := "watermeet/watermeetlaw32.AuditAll", spec := "auditAll", unfollowed := true, recurses := true, plainKeys := false, apart := false }
def AuditAllSaid : Prop := auditAllRow.holds Try.pinned (OpenSpec.ofChange auditAllSpec)

/-- ITS FALSE NEIGHBOUR: 'it returns false'. Refute it at one input. -/
def auditAllWrong : ChangeSpec := { name := "auditAll", fn := fun _ => fun
  | [d1, d2, d3, d4, d5] => { results := [.lit (.bool false)], args := [d1, d2, d3, d4, d5] }
  | _ => none }
def AuditAllWrongFalsely : Prop := auditAllRow.holds Try.pinned (OpenSpec.ofChange auditAllWrong)

/-- 'watermeetlaw32.AuditAgain': WHATEVER THE INPUT: true; the input reads as it did. -/
def auditAgainSpec : ChangeSpec := { name := "auditAgain", fn := fun _ => fun
  | [d1, d2, d3, d4, d5] => { results := [.lit (.bool true)], args := [d1, d2, d3, d4, d5] }
  | _ => none }
def auditAgainRow : OpenClaim := { program := "ytpinnhemlcpkaaa", sum := "f8bd8df6979b1de6a6da56eefd34f0e794c87841dbd243f53d3e41e9e8e0dc88", func := "watermeet/watermeetlaw32.AuditAgain", spec := "auditAgain", unfollowed := true, recurses := true, plainKeys := false, apart := false }
def AuditAgainSaid : Prop := auditAgainRow.holds Try.pinned (OpenSpec.ofChange auditAgainSpec)

/-- ITS FALSE NEIGHBOUR: 'it returns false'. Refute it at one input. -/
def auditAgainWrong : ChangeSpec := { name := "auditAgain", fn := fun _ => fun
  | [d1, d2, d3, d4, d5] => { results := [.lit (.bool false)], args := [d1, d2, d3, d4, d5] }
  | _ => none }
def AuditAgainWrongFalsely : Prop := auditAgainRow.holds Try.pinned (OpenSpec.ofChange auditAgainWrong)

/-- 'watermeetlaw32.AuditSwapped': WHATEVER THE INPUT: true; the input reads as it did. -/
def auditSwappedSpec : ChangeSpec := { name := "auditSwapped", fn := fun _ => fun
  | [d1, d2, d3] => { results := [.lit (.bool true)], args := [d1, d2, d3] }
  | _ => none }
def auditSwappedRow : OpenClaim := { program := "ytpinnhemlcpkaaa", sum := "f8bd8df6979b1de6a6da56eefd34f0e794c87841dbd243f53d3e41e9e8e0dc88", func := "watermeet/watermeetlaw32.AuditSwapped", spec := "auditSwapped", unfollowed := true, recurses := true, plainKeys := false, apart := false }
def AuditSwappedSaid : Prop := auditSwappedRow.holds Try.pinned (OpenSpec.ofChange auditSwappedSpec)

/-- ITS FALSE NEIGHBOUR: 'it returns false'. Refute it at one input. -/
def auditSwappedWrong : ChangeSpec := { name := "auditSwapped", fn := fun _ => fun
  | [d1, d2, d3] => { results := [.lit (.bool false)], args := [d1, d2, d3] }
  | _ => none }
def AuditSwappedWrongFalsely : Prop := auditSwappedRow.holds Try.pinned (OpenSpec.ofChange auditSwappedWrong)

/-- 'watermeetlaw32.AuditApart': WHATEVER THE INPUT: true; the input reads as it did. -/
def auditApartSpec : ChangeSpec := { name := "auditApart", fn := fun _ => fun
  | [d1, d2, d3] => { results := [.lit (.bool true)], args := [d1, d2, d3] }
  | _ => none }
def auditApartRow : OpenClaim := { program := "ytpinnhemlcpkaaa", sum := "f8bd8df6979b1de6a6da56eefd34f0e794c87841dbd243f53d3e41e9e8e0dc88", func := "watermeet/watermeetlaw32.AuditApart", spec := "auditApart", unfollowed := true, recurses := true, plainKeys := false, apart := false }
def AuditApartSaid : Prop := auditApartRow.holds Try.pinned (OpenSpec.ofChange auditApartSpec)

/-- ITS FALSE NEIGHBOUR: 'it returns false'. Refute it at one input. -/
def auditApartWrong : ChangeSpec := { name := "auditApart", fn := fun _ => fun
  | [d1, d2, d3] => { results := [.lit (.bool false)], args := [d1, d2, d3] }
  | _ => none }
def AuditApartWrongFalsely : Prop := auditApartRow.holds Try.pinned (OpenSpec.ofChange auditApartWrong)

/-- 'watermeetlaw32.AuditMore': WHATEVER THE INPUT: true; the input reads as it did. -/
def auditMoreSpec : ChangeSpec := { name := "auditMore", fn := fun _ => fun
  | [d1, d2, d3, d4, d5] => { results := [.lit (.bool true)], args := [d1, d2, d3, d4, d5] }
  | _ => none }
def auditMoreRow : OpenClaim := { program := "ytpinnhemlcpkaaa", sum := "f8bd8df6979b1de6a6da56eefd34f0e794c87841dbd243f53d3e41e9e8e0dc88", func := "watermeet/watermeetlaw32.AuditMore", spec := "auditMore", unfollowed := true, recurses := true, plainKeys := false, apart := false }
def AuditMoreSaid : Prop := auditMoreRow.holds Try.pinned (OpenSpec.ofChange auditMoreSpec)

/-- ITS FALSE NEIGHBOUR: 'it returns false'. Refute it at one input. -/
def auditMoreWrong : ChangeSpec := { name := "auditMore", fn := fun _ => fun
  | [d1, d2, d3, d4, d5] => { results := [.lit (.bool false)], args := [d1, d2, d3, d4, d5] }
  | _ => none }
def AuditMoreWrongFalsely : Prop := auditMoreRow.holds Try.pinned (OpenSpec.ofChange auditMoreWrong)

/- THE SECOND FORM. 'bulk': how many values and letters a reading holds, each counted each time it is reached (what is shared counts as often as it is met; a slice's spare places count too). A statement '..UptoSaid' is the law's where the arguments, and the package variables that the reading takes, are together of bulk at most 1048576: NARROWER than '..Said'. Prove '..Said' where nothing that the law and all that it calls make is longer than what came in: it says more and counts as full. Else prove '..UptoSaid'. A law counts once. -/
mutual
def uptoBulk {H : Type} : DataW H → Nat
  | .lit (.string bytes) => bytes.length + 1
  | .lit _ => 1
  | .nil => 1
  | .ptr d => uptoBulk d + 1
  | .slice elems spare => uptoBulkAll elems + uptoBulkAll spare + 1
  | .agg parts => uptoBulkAll parts + 1
  | .iface _ d => uptoBulk d + 1
  | .map entries => uptoBulkEntries entries + 1
  | .held _ => 1
def uptoBulkAll {H : Type} : List (DataW H) → Nat
  | [] => 0
  | d :: r => uptoBulk d + uptoBulkAll r
def uptoBulkEntries {H : Type} : List (Lit × DataW H) → Nat
  | [] => 0
  | x :: r => uptoBulkEntry x + uptoBulkEntries r
def uptoBulkEntry {H : Type} : Lit × DataW H → Nat
  | (.string bytes, d) => bytes.length + uptoBulk d + 1
  | (_, d) => uptoBulk d + 1
 end
def uptoSmall : (H : Type) → List (DataW H) → Bool := fun _ ds => decide (uptoBulkAll ds ≤ 1048576)
def OpenSpec.upto (s : _root_.Go.ChangeSpec) : _root_.Go.OpenSpec := { _root_.Go.OpenSpec.ofChange s with cond := some uptoSmall }

/-- 'watermeetlaw32.AuditOrder', WHERE WHAT IT READS IS OF BULK AT MOST 1048576: true; the input reads as it did. -/
def auditOrderUptoRow : OpenClaim := { program := "ytpinnhemlcpkaaa", sum := "f8bd8df6979b1de6a6da56eefd34f0e794c87841dbd243f53d3e41e9e8e0dc88", func := "watermeet/watermeetlaw32.AuditOrder", spec := "auditOrder", unfollowed := true, recurses := true, plainKeys := false, apart := false, narrowed := true }
def AuditOrderUptoSaid : Prop := auditOrderUptoRow.holds Try.pinned (OpenSpec.upto auditOrderSpec)

/-- 'watermeetlaw32.AuditAll', WHERE WHAT IT READS IS OF BULK AT MOST 1048576: true; the input reads as it did. -/
def auditAllUptoRow : OpenClaim := { program := "ytpinnhemlcpkaaa", sum := "f8bd8df6979b1de6a6da56eefd34f0e794c87841dbd243f53d3e41e9e8e0dc88", func := "watermeet/watermeetlaw32.AuditAll", spec := "auditAll", unfollowed := true, recurses := true, plainKeys := false, apart := false, narrowed := true }
def AuditAllUptoSaid : Prop := auditAllUptoRow.holds Try.pinned (OpenSpec.upto auditAllSpec)

/-- 'watermeetlaw32.AuditAgain', WHERE WHAT IT READS IS OF BULK AT MOST 1048576: true; the input reads as it did. -/
def auditAgainUptoRow : OpenClaim := { program := "ytpinnhemlcpkaaa", sum := "f8bd8df6979b1de6a6da56eefd34f0e794c87841dbd243f53d3e41e9e8e0dc88", func := "watermeet/watermeetlaw32.AuditAgain", spec := "auditAgain", unfollowed := true, recurses := true, plainKeys := false, apart := false, narrowed := true }
def AuditAgainUptoSaid : Prop := auditAgainUptoRow.holds Try.pinned (OpenSpec.upto auditAgainSpec)

/-- 'watermeetlaw32.AuditSwapped', WHERE WHAT IT READS IS OF BULK AT MOST 1048576: true; the input reads as it did. -/
def auditSwappedUptoRow : OpenClaim := { program := "ytpinnhemlcpkaaa", sum := "f8bd8df6979b1de6a6da56eefd34f0e794c87841dbd243f53d3e41e9e8e0dc88", func := "watermeet/watermeetlaw32.AuditSwapped", spec := "auditSwapped", unfollowed := true, recurses := true, plainKeys := false, apart := false, narrowed := true }
def AuditSwappedUptoSaid : Prop := auditSwappedUptoRow.holds Try.pinned (OpenSpec.upto auditSwappedSpec)

/-- 'watermeetlaw32.AuditApart', WHERE WHAT IT READS IS OF BULK AT MOST 1048576: true; the input reads as it did. -/
def auditApartUptoRow : OpenClaim := { program := "ytpinnhemlcpkaaa", sum := "f8bd8df6979b1de6a6da56eefd34f0e794c87841dbd243f53d3e41e9e8e0dc88", func := "watermeet/watermeetlaw32.AuditApart", spec := "auditApart", unfollowed := true, recurses := true, plainKeys := false, apart := false, narrowed := true }
def AuditApartUptoSaid : Prop := auditApartUptoRow.holds Try.pinned (OpenSpec.upto auditApartSpec)

/-- 'watermeetlaw32.AuditMore', WHERE WHAT IT READS IS OF BULK AT MOST 1048576: true; the input reads as it did. -/
def auditMoreUptoRow : OpenClaim := { program := "ytpinnhemlcpkaaa", sum := "f8bd8df6979b1de6a6da56eefd34f0e794c87841dbd243f53d3e41e9e8e0dc88", func := "watermeet/watermeetlaw32.AuditMore", spec := "auditMore", unfollowed := true, recurses := true, plainKeys := false, apart := false, narrowed := true }
def AuditMoreUptoSaid : Prop := auditMoreUptoRow.holds Try.pinned (OpenSpec.upto auditMoreSpec)

end Rows
end Go.Proofs.Ytpinnhemlcpkaaa

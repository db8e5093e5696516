/-
  No cell of these rows narrows 'for every input' (looked for: loops, veiled, ifaces, maps, wideKeys, modest, calm, conditions, laid).
  DERIVED. THE GIVEN ROWS OF THIS SEAT. 3 by the template 'for every input the law returns true; each argument reads behind the call as it read before'; 0 by the template 'total and deterministic' (their statements: YtjonlpdnhbnmmaaGreatTotals.lean).
  GIVEN WITH THE SEED: the statements are not yours to turn. If you find one false, say at which input.
  Laid BY PROGRAM, IN A SANDBOX (cutbox-rows.mjs): the forced cells as the released guide's own fill.sh prints them over the translation ef00076add95b0f7… (all of the seat's roots in one cut). By AI agents, Wed Nov 11 2026. No macro, syntax, notation, axiom, sorry.
-/
import Derived.Test.YtjonlpdnhbnmmaaGreatChecked
import GoSem.Claim
import GoSem.ClaimJoined
import GoSem.ClaimMapViews
import Derived.JoinedTies
import Derived.KernelRfl
namespace Go.Proofs.YtjonlpdnhbnmmaaGreat
/- THE CELL 'sum', in the pinned program and in every row, IS THE sha256 OF THE DUMP (.gsa) THAT YtjonlpdnhbnmmaaGreatProg.lean LOADS. Nothing in Lean hashes anything: it is a label: what it is worth is what the hold of that sum in a sandbox is worth. -/
noncomputable def Tryz.pinned : Pinned := { name := "ytjonlpdnhbnmmaagreat", sum := "ef00076add95b0f754d68bbf9f5da58cb5f64c246460e6fec1a116f0f3a9a3a5", checked := Tryz.checked }
namespace Rows
def none {H : Type} : Left H := { results := [], args := [] }

/-- 'watermeetlaw12.TxnsTells': WHATEVER THE INPUT: true; the input reads as it did. -/
def txnsTellsSpec : ChangeSpec := { name := "txnsTells", fn := fun _ => fun
  | [d1, d2, d3, d4] => { results := [.lit (.bool true)], args := [d1, d2, d3, d4] }
  | _ => none }
def txnsTellsRow : OpenClaim := { program := "ytjonlpdnhbnmmaagreat", sum := "ef00076add95b0f754d68bbf9f5da58cb5f64c246460e6fec1a116f0f3a9a3a5", func := "watermeet/watermeetlaw12.TxnsTells", spec := "txnsTells", inPlace := ["slices.overlaps[watermeet/api.Open]"], unfollowed := true, recurses := true, plainKeys := false, apart := false }
def TxnsTellsSaid : Prop := txnsTellsRow.holds Tryz.pinned (OpenSpec.ofChange txnsTellsSpec)

/-- ITS FALSE NEIGHBOUR: 'it returns false'. Refute it at one input. -/
def txnsTellsWrong : ChangeSpec := { name := "txnsTells", fn := fun _ => fun
  | [d1, d2, d3, d4] => { results := [.lit (.bool false)], args := [d1, d2, d3, d4] }
  | _ => none }
def TxnsTellsWrongFalsely : Prop := txnsTellsRow.holds Tryz.pinned (OpenSpec.ofChange txnsTellsWrong)

/-- 'watermeetlaw32.AuditRead': WHATEVER THE INPUT: true; the input reads as it did. -/
def auditReadSpec : ChangeSpec := { name := "auditRead", fn := fun _ => fun
  | [d1, d2] => { results := [.lit (.bool true)], args := [d1, d2] }
  | _ => none }
def auditReadRow : OpenClaim := { program := "ytjonlpdnhbnmmaagreat", sum := "ef00076add95b0f754d68bbf9f5da58cb5f64c246460e6fec1a116f0f3a9a3a5", func := "watermeet/watermeetlaw32.AuditRead", spec := "auditRead", inPlace := ["slices.overlaps[watermeet/api.Open]", "internal/bytealg.abigen_runtime_cmpstring"], unfollowed := true, recurses := true, plainKeys := false, apart := false }
def AuditReadSaid : Prop := auditReadRow.holds Tryz.pinned (OpenSpec.ofChange auditReadSpec)

/-- ITS FALSE NEIGHBOUR: 'it returns false'. Refute it at one input. -/
def auditReadWrong : ChangeSpec := { name := "auditRead", fn := fun _ => fun
  | [d1, d2] => { results := [.lit (.bool false)], args := [d1, d2] }
  | _ => none }
def AuditReadWrongFalsely : Prop := auditReadRow.holds Tryz.pinned (OpenSpec.ofChange auditReadWrong)

/-- 'watermeetlaw32.AuditMissed': WHATEVER THE INPUT: true; the input reads as it did. -/
def auditMissedSpec : ChangeSpec := { name := "auditMissed", fn := fun _ => fun
  | [d1, d2, d3] => { results := [.lit (.bool true)], args := [d1, d2, d3] }
  | _ => none }
def auditMissedRow : OpenClaim := { program := "ytjonlpdnhbnmmaagreat", sum := "ef00076add95b0f754d68bbf9f5da58cb5f64c246460e6fec1a116f0f3a9a3a5", func := "watermeet/watermeetlaw32.AuditMissed", spec := "auditMissed", inPlace := ["slices.overlaps[watermeet/api.Open]", "internal/bytealg.abigen_runtime_cmpstring"], unfollowed := true, recurses := true, plainKeys := false, apart := false }
def AuditMissedSaid : Prop := auditMissedRow.holds Tryz.pinned (OpenSpec.ofChange auditMissedSpec)

/-- ITS FALSE NEIGHBOUR: 'it returns false'. Refute it at one input. -/
def auditMissedWrong : ChangeSpec := { name := "auditMissed", fn := fun _ => fun
  | [d1, d2, d3] => { results := [.lit (.bool false)], args := [d1, d2, d3] }
  | _ => none }
def AuditMissedWrongFalsely : Prop := auditMissedRow.holds Tryz.pinned (OpenSpec.ofChange auditMissedWrong)

/- THE SECOND FORM. 'bulk': how many values and letters a reading holds, each counted each time it is reached (what is shared counts as often as it is met; a slice's spare places count too). A statement '..UptoSaid' is the law's where the arguments, and the package variables that the reading takes, are together of bulk at most 1048576: NARROWER than '..Said'. Prove '..Said' where nothing that the law and all that it calls make is longer than what came in: it says more and counts as full. Else prove '..UptoSaid'. A law counts once. -/
mutual
def uptoBulk {H : Type} : DataW H → Nat
  | .lit (.string bytes) => bytes.length + 1
  | .lit _ => 1
  | .nil => 1
  | .ptr d => uptoBulk d + 1
  | .slice elems spare => uptoBulkAll elems + uptoBulkAll spare + 1
  | .agg parts => uptoBulkAll parts + 1
  | .iface _ d => uptoBulk d + 1
  | .map entries => uptoBulkEntries entries + 1
  | .held _ => 1
def uptoBulkAll {H : Type} : List (DataW H) → Nat
  | [] => 0
  | d :: r => uptoBulk d + uptoBulkAll r
def uptoBulkEntries {H : Type} : List (Lit × DataW H) → Nat
  | [] => 0
  | x :: r => uptoBulkEntry x + uptoBulkEntries r
def uptoBulkEntry {H : Type} : Lit × DataW H → Nat
  | (.string bytes, d) => bytes.length + uptoBulk d + 1
  | (_, d) => uptoBulk d + 1
 end
def uptoSmall : (H : Type) → List (DataW H) → Bool := fun _ ds => decide (uptoBulkAll ds ≤ 1048576)
def OpenSpec.upto (s : _root_.Go.ChangeSpec) : _root_.Go.OpenSpec := { _root_.Go.OpenSpec.ofChange s with cond := some uptoSmall }

/-- 'watermeetlaw12.TxnsTells', WHERE WHAT IT READS IS OF BULK AT MOST 1048576: true; the input reads as it did. -/
def txnsTellsUptoRow : OpenClaim := { program := "ytjonlpdnhbnmmaagreat", sum := "ef00076add95b0f754d68bbf9f5da58cb5f64c246460e6fec1a116f0f3a9a3a5", func := "watermeet/watermeetlaw12.TxnsTells", spec := "txnsTells", inPlace := ["slices.overlaps[watermeet/api.Open]"], unfollowed := true, recurses := true, plainKeys := false, apart := false, narrowed := true }
def TxnsTellsUptoSaid : Prop := txnsTellsUptoRow.holds Tryz.pinned (OpenSpec.upto txnsTellsSpec)

/-- 'watermeetlaw32.AuditRead', WHERE WHAT IT READS IS OF BULK AT MOST 1048576: true; the input reads as it did. -/
def auditReadUptoRow : OpenClaim := { program := "ytjonlpdnhbnmmaagreat", sum := "ef00076add95b0f754d68bbf9f5da58cb5f64c246460e6fec1a116f0f3a9a3a5", func := "watermeet/watermeetlaw32.AuditRead", spec := "auditRead", inPlace := ["slices.overlaps[watermeet/api.Open]", "internal/bytealg.abigen_runtime_cmpstring"], unfollowed := true, recurses := true, plainKeys := false, apart := false, narrowed := true }
def AuditReadUptoSaid : Prop := auditReadUptoRow.holds Tryz.pinned (OpenSpec.upto auditReadSpec)

/-- 'watermeetlaw32.AuditMissed', WHERE WHAT IT READS IS OF BULK AT MOST 1048576: true; the input reads as it did. -/
def auditMissedUptoRow : OpenClaim := { program := "ytjonlpdnhbnmmaagreat", sum := "ef00076add95b0f754d68bbf9f5da58cb5f64c246460e6fec1a116f0f3a9a3a5", func := "watermeet/watermeetlaw32.AuditMissed", spec := "auditMissed", inPlace := ["slices.overlaps[watermeet/api.Open]", "internal/bytealg.abigen_runtime_cmpstring"], unfollowed := true, recurses := true, plainKeys := false, apart := false, narrowed := true }
def AuditMissedUptoSaid : Prop := auditMissedUptoRow.holds Tryz.pinned (OpenSpec.upto auditMissedSpec)

end Rows
end Go.Proofs.YtjonlpdnhbnmmaaGreat

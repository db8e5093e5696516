/-
  Whether batches are the same, and transactions; what is hidden, and what is left. Conditions: that what is handed in reads as data.
-/
import Derived.Test.YtjonlpdnhbnmmaaT1
set_option linter.all false
namespace Go.Wm
open Go.RowKit Go.Proofs
attribute [local irreducible] RG CG EG WA Loc Det Alc CT Exit.then Exit.inBlock Code.wp bodyPost

theorem Batch.eq_iff {a b : Batch} : a = b ↔ a.base = b.base ∧ a.last = b.last ∧ a.fromV = b.fromV ∧ a.epoch = b.epoch ∧ a.pid = b.pid ∧ a.gen = b.gen ∧ a.seq = b.seq ∧ a.txn = b.txn ∧ a.ctl = b.ctl ∧ a.recs = b.recs := by
  cases a; cases b; simp
end Go.Wm

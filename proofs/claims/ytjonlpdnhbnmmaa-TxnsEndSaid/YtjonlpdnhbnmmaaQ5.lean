/-
  What is open is ended once, in plain Lean. Conditions: none.
-/
import Derived.Test.YtjonlpdnhbnmmaaCoA
import Derived.Test.YtjonlpdnhbnmmaaY6
import Derived.Test.YtjonlpdnhbnmmaaQ4
set_option linter.all false
namespace Go.Wm
open Go.RowKit
/-- The low 16 bits. -/
def low16 (x : Int) : Nat := (BitVec.ofInt 64 x &&& BitVec.ofInt 64 65535).toNat
theorem low16_le (x : Int) : low16 x ≤ 65535 := by
  unfold low16
  rw [BitVec.toNat_and]
  exact Nat.and_le_right
section
variable {P : Program} {o : Oper} {e : Env} {k : PH} {t t' : TypeId} {x y : Operand}
theorem d_rem {a b : Nat} (hop : o.op = .binOp .rem t x y t') (hx : opv e x = some (.int .i64 (a : Int))) (hy : opv e y = some (.int .i64 (b : Int))) (hb : 0 < b) : Det P e k o (.int .i64 ((a % b : Nat) : Int)) := by
  intro ev w hev _
  rw [hop] at hev
  have e1 := hev x (by simp [Op.operands]) _ hx
  have e2 := hev y (by simp [Op.operands]) _ hy
  have h0 : ¬ (b : Int) = 0 := by omega
  have h2 : ((a : Int).tmod (b : Int)) = ((a % b : Nat) : Int) := rfl
  simp only [execOp, hop, e1, e2, eqGuard, binOp, Op.intDiv, h0, if_false, h2]
  simp
theorem d_and16 {a : Int} (hop : o.op = .binOp .and t x y t') (hx : opv e x = some (.int .i64 a)) (hy : opv e y = some (.int .i64 65535)) : Det P e k o (.int .i64 ((low16 a : Nat) : Int)) := by
  intro ev w hev _
  rw [hop] at hev
  have e1 := hev x (by simp [Op.operands]) _ hx
  have e2 := hev y (by simp [Op.operands]) _ hy
  have h3 := low16_le a
  have h4 : IntKind.i64.wrap ((low16 a : Nat) : Int) = ((low16 a : Nat) : Int) := by rw [IntKind.wrap_i64]; omega
  have h5 : IntKind.i64.wrap (((BitVec.ofInt 64 a &&& BitVec.ofInt 64 65535).toNat : Nat) : Int) = ((low16 a : Nat) : Int) := h4
  have h6 : (Op.intBits .and .i64 a 65535).run P w = .ok (.int .i64 ((low16 a : Nat) : Int)) w := by
    show Result.ok (Value.int .i64 (IntKind.i64.wrap (((BitVec.ofInt 64 a &&& BitVec.ofInt 64 65535).toNat : Nat) : Int))) w = _
    rw [h5]
  simp [execOp, hop, e1, e2, eqGuard, binOp, h6]
end
end Go.Wm
namespace Go.Wm
open Go.RowKit Go.Proofs
attribute [local irreducible] RG CG EG WA Loc Det Alc CT Exit.then Exit.inBlock Code.wp bodyPost
theorem short_b {b : Batch} (h : b.small) : Short b := fun r hr => by
  unfold Batch.small at h
  have h2 := h.2.2.2.2.2.2.2.2.2.2 r hr
  exact ⟨h2.2.1, h2.2.2.1⟩
structure StepF (t : Tx) (b : Batch) (u : Tx) : Prop where
  o : u.openV.length ≤ t.openV.length + 1
  g : u.gone.length ≤ t.gone.length + 1
  d : u.done.length ≤ t.done.length + 1
  g' : t.gone.length ≤ u.gone.length
  d' : t.done.length ≤ u.done.length
  gt : u.gone.take t.gone.length = t.gone
  dt : u.done.take t.done.length = t.done
  sz : sizeT u = sizeT t ∨ (sizeT u = sizeT t + 1 ∧ b.ctl = 0 ∧ b.txn = true ∧ u.openV.length = t.openV.length + 1)
  none : b.txn = false → u = t
  ok : txP u = true
theorem stepF {t : Tx} {b : Batch} (h : putErr t b = 0) : StepF t b (putT t b) := by
  obtain ⟨h1, h2, h3⟩ := putErr_iff.1 h
  have f := chk_form h2
  have hok := put_ok h
  rcases put_len t b with ⟨e, _⟩ | ⟨c0, ct, th, e⟩ | ⟨c0, th, e⟩
  · rw [e] at hok ⊢
    exact ⟨by omega, by omega, by omega, by omega, by omega, List.take_length, List.take_length, .inl rfl, fun _ => rfl, hok⟩
  · rw [e] at hok ⊢
    have l1 := len_opens t b
    have l2 : (opensT t b).gone = t.gone := rfl
    have l3 : (opensT t b).done = t.done := rfl
    exact ⟨by omega, by rw [l2]; omega, by rw [l3]; omega, by rw [l2]; omega, by rw [l3]; omega, by rw [l2]; exact List.take_length, by rw [l3]; exact List.take_length, .inr ⟨by unfold sizeT; rw [l1, l2, l3]; omega, c0, ct, l1⟩, fun hn => (by rw [ct] at hn; cases hn), hok⟩
  · have l1 := len_less th
    have hno : b.txn = false → putT t b = t := fun hn => by rw [(f.ctl c0).2.2.2.1] at hn; cases hn
    rcases e with e | e
    · rw [e] at hok hno ⊢
      refine ⟨?_, ?_, ?_, ?_, ?_, ?_, ?_, .inl ?_, hno, hok⟩
      · show (lessT t b).length ≤ _; omega
      · show (t.gone ++ [goneOf t b]).length ≤ _; simp
      · show t.done.length ≤ _; omega
      · show _ ≤ (t.gone ++ [goneOf t b]).length; simp
      · show _ ≤ t.done.length; omega
      · show (t.gone ++ [goneOf t b]).take _ = _; simp
      · exact List.take_length
      · show (lessT t b).length + (t.gone ++ [goneOf t b]).length + t.done.length = _
        unfold sizeT; simp; omega
    · rw [e] at hok hno ⊢
      refine ⟨?_, ?_, ?_, ?_, ?_, ?_, ?_, .inl ?_, hno, hok⟩
      · show (lessT t b).length ≤ _; omega
      · show t.gone.length ≤ _; omega
      · show (t.done ++ [goneOf t b]).length ≤ _; simp
      · show _ ≤ t.gone.length; omega
      · show _ ≤ (t.done ++ [goneOf t b]).length; simp
      · exact List.take_length
      · show (t.done ++ [goneOf t b]).take _ = _; simp
      · show (lessT t b).length + t.gone.length + (t.done ++ [goneOf t b]).length = _
        unfold sizeT; simp; omega
theorem fewT_iff {t : Tx} (h : fewT t = true) : t.openV.length ≤ 60 ∧ t.gone.length ≤ 60 ∧ t.done.length ≤ 60 := by
  simpa [fewT] using h
end Go.Wm
namespace Go.Wm
open Go.RowKit Go.Proofs
def endN (base pid no ctl : Int) : Batch := ⟨base, base, base, 0, pid, 0, no, true, ctl, []⟩
def endG (t : Tx) (b : Batch) (g : Gone) : Tx := if b.ctl = 2 then ⟨lessT t b, t.gone ++ [g], t.done⟩ else ⟨lessT t b, t.gone, t.done ++ [g]⟩
structure EndF (t : Tx) (o : OpenT) (base no ctl : Int) : Prop where
  len : (lessT t (endN base o.pid no ctl)).length + 1 = t.openV.length
  put : putT t (endN base o.pid no ctl) = endG t (endN base o.pid no ctl) ⟨o.pid, no, o.first, base⟩
  err : putErr (putT t (endN base o.pid no ctl)) (endB (base + 1) o.pid ctl) = 0
  same : putT (putT t (endN base o.pid no ctl)) (endB (base + 1) o.pid ctl) = putT t (endN base o.pid no ctl)
theorem endF {t : Tx} {o : OpenT} {base no ctl : Int} (h : putErr t (endN base o.pid no ctl) = 0) (ho : o ∈ t.openV) (hctl : ctl = 1 ∨ ctl = 2) (hb : base < 1099511627776) : EndF t o base no ctl := by
  obtain ⟨h1, h2, h3⟩ := putErr_iff.1 h
  obtain ⟨g1, g2⟩ := opens_iff.1 (txP_iff.1 h1).1
  obtain ⟨b1, b2, b3⟩ := behind_iff.1 h3
  have f := chk_form h2
  have hok := put_ok h
  have hc0 : ¬ ctl = 0 := by rcases hctl with h | h <;> omega
  obtain ⟨hp, ep⟩ := there_mem g2 ho (pid := (endN base o.pid no ctl).pid) rfl
  have hth : thereO t.openV (endN base o.pid no ctl).pid = true := there_iff.2 ⟨hp, by rw [ep]; rfl⟩
  have hl := len_less (t := t) (b := endN base o.pid no ctl) hth
  have hg : goneOf t (endN base o.pid no ctl) = ⟨o.pid, no, o.first, base⟩ := by
    have := gone_first (t := t) (b := endN base o.pid no ctl) hp
    rw [ep] at this
    have e : goneOf t (endN base o.pid no ctl) = ⟨o.pid, no, (goneOf t (endN base o.pid no ctl)).first, base⟩ := rfl
    rw [e, this]
  have hput : putT t (endN base o.pid no ctl) = endG t (endN base o.pid no ctl) ⟨o.pid, no, o.first, base⟩ := by
    unfold putT endG
    rw [if_neg (show ¬ (endN base o.pid no ctl).ctl = 0 from hc0), if_pos hth, hg]
  have hpid := f.base
  have hbase : 0 ≤ base := f.base.1
  have hx1 : (putT t (endN base o.pid no ctl)).openV = lessT t (endN base o.pid no ctl) := by
    rw [hput]; unfold endG; split <;> rfl
  have hx2 : ∀ g ∈ (putT t (endN base o.pid no ctl)).gone, g.last < base + 1 := by
    rw [hput]; unfold endG
    intro g hg
    split at hg
    · rcases List.mem_append.1 hg with hg | hg
      · have := b2 g hg; show g.last < _; change g.last < base at this; omega
      · simp at hg; subst hg; show base < base + 1; omega
    · have := b2 g hg; change g.last < base at this; omega
  have hx3 : ∀ g ∈ (putT t (endN base o.pid no ctl)).done, g.last < base + 1 := by
    rw [hput]; unfold endG
    intro g hg
    split at hg
    · have := b3 g hg; change g.last < base at this; omega
    · rcases List.mem_append.1 hg with hg | hg
      · have := b3 g hg; change g.last < base at this; omega
      · simp at hg; subst hg; show base < base + 1; omega
  have hmem : ∀ q, q ∈ (putT t (endN base o.pid no ctl)).openV → q ∈ t.openV ∧ q.pid ≠ o.pid := fun q hq => by
    rw [hx1] at hq
    exact (mem_less g2 hth).1 hq
  have hform : FormP (endB (base + 1) o.pid ctl) := by
    have hp0 : 0 ≤ o.pid := (f.ctl hc0).2.2.2.2
    have hp1 := (f.some (show o.pid ≠ -1 by omega))
    have hin : 0 ≤ base + 1 ∧ base + 1 ≤ 1099511627776 := ⟨by omega, by omega⟩
    have hz : base + 1 - (base + 1) = 0 := by omega
    exact { base := hin, last := hin, fromV := hin, span := ⟨Int.le_refl _, by show base + 1 - (base + 1) < 16; omega, by show base + 1 + (base + 1 - (base + 1)) ≤ 1099511627776; omega⟩,
            epoch := ⟨Int.le_refl _, by show (0 : Int) ≤ 1048576; omega⟩, gen := ⟨Int.le_refl _, by show (0 : Int) ≤ 1048576; omega⟩, seq := ⟨Int.le_refl _, by show (0 : Int) ≤ 1048576; omega⟩,
            seqs := by show (0 : Int) + (base + 1 - (base + 1)) ≤ 1048576; omega, none := fun e => absurd (show o.pid = -1 from e) (by omega), some := fun _ => hp1,
            ctl := fun _ => ⟨hctl, hz, rfl, rfl, hp0⟩, recs := fun e => absurd e hc0 }
  refine ⟨hl, hput, putErr_iff.2 ⟨hok, chk_short hform (show ([] : List Rec).length ≤ 5 by simp), behind_iff.2 ⟨fun q hq => ?_, hx2, hx3⟩⟩, ?_⟩
  · have := b1 q (hmem q hq).1
    change q.first < base at this
    show q.first < base + 1
    omega
  · have hnt : ¬ thereO (putT t (endN base o.pid no ctl)).openV (endB (base + 1) o.pid ctl).pid = true := fun e => by
      obtain ⟨e1, e2⟩ := there_iff.1 e
      exact (hmem _ (List.getElem_mem e1)).2 e2
    generalize putT t (endN base o.pid no ctl) = x at hnt ⊢
    unfold putT
    rw [if_neg (show ¬ (endB (base + 1) o.pid ctl).ctl = 0 from hc0), if_neg hnt]
end Go.Wm

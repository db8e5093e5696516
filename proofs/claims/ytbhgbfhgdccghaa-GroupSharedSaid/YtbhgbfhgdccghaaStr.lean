/-
  Loops over a text, rune by rune; comparisons of whole numbers of any kind. Conditions: none beyond those of each law.
-/
import Derived.Test.YtbhgbfhgdccghaaCoA
import Derived.Test.YtbhgbfhgdccghaaCoB
set_option linter.all false
namespace Go.Wm
variable [Dfr]
open Go.RowKit
/-- The low 16 bits. -/
def low16 (x : Int) : Nat := (BitVec.ofInt 64 x &&& BitVec.ofInt 64 65535).toNat
section
variable {P : Program} {o : Oper} {e : Env} {k : PH} {t t' : TypeId} {x y : Operand}
end
end Go.Wm
namespace Go.Wm
variable [Dfr]
open Go.RowKit

theorem dec_low {s : ByteArray} {i : Nat} (h : (s.get! i).toNat < 128) : Utf8.decode s i = ((s.get! i).toNat, 1) := by
  simp [Utf8.decode, h]
theorem dec_high {s : ByteArray} {i : Nat} (h : 128 ≤ (s.get! i).toNat) : 128 ≤ (Utf8.decode s i).1 ∧ 1 ≤ (Utf8.decode s i).2 := by
  unfold Utf8.decode
  simp only [Nat.add_zero]
  rw [if_neg (by omega)]
  split
  · split
    · rename_i h2; exact ⟨h2, by simp⟩
    · simp [Utf8.runeError]
  · split
    · split
      · rename_i h2
        simp only [Bool.and_eq_true, decide_eq_true_eq] at h2
        exact ⟨Nat.le_trans (by decide) h2.1, by simp⟩
      · simp [Utf8.runeError]
    · split
      · split
        · rename_i h2
          simp only [Bool.and_eq_true, decide_eq_true_eq] at h2
          exact ⟨Nat.le_trans (by decide) h2.1, by simp⟩
        · simp [Utf8.runeError]
      · simp [Utf8.runeError]

section
variable {P : Program} {F : Fr} {n : Nat} {ops : Array Oper} {Q : Exit → Act → World → Prop} {rest : List Oper} {o : Oper} {e : Env} {k : PH}
theorem a_rangeS {t : TypeId} {x : Operand} {s : ByteArray} [ht : TyU P t .string] (hop : o.op = .range t x) (hx : opv e x = some (.string s)) : Alc P e k o (fun b => .pointer (some ⟨b, 0, none⟩)) (.stringIter s 0) := by
  intro ev w hev hs
  rw [hop] at hev
  have hr : (Instr.range t (.string s)).run P w = .ok (.pointer (some ⟨w.heap.size, 0, none⟩)) (w.alloc (.stringIter s 0)) := by
    simp [Instr.range, run_underlying ht.eq, run_newObj_alloc]
  simp [execOp, hop, hev x (by simp [Op.operands]) _ hx, hr]
theorem run_nextS (w : World) (ty : TypeId) (it : Nat) (s : ByteArray) (pos : Nat) (hi : w.heap[it]? = some (.stringIter s pos)) :
    (Instr.next (.pointer (some ⟨it, 0, none⟩)) true ty).run P w = if pos < s.size then .ok (.tuple #[.bool true, .int .i64 (pos : Int), .int .i32 ((Utf8.decode s pos).1 : Int)]) { w with heap := w.heap.setIfInBounds it (.stringIter s (pos + (Utf8.decode s pos).2)) } else .ok (.tuple #[.bool false]) w := by
  by_cases h : pos < s.size
  · simp only [Instr.next, getObj, Sem.run_bind, Sem.run, hi, Result.andThen, h, if_true, setObj]
    rfl
  · simp only [Instr.next, getObj, Sem.run_bind, Sem.run, hi, Result.andThen, h, if_false]
    rfl
theorem r_nextS {x : Operand} {it pos d : Nat} {s : ByteArray} (hd : o.dst = some d) (hf : Nat.blt d n = true) (hdet : det e = true) (hg : o.guard = none) (hop : o.op = .next x true) (hx : opv e x = some (.pointer (some ⟨it, 0, none⟩)))
    (hi : k it = some (.stringIter s pos)) (hown : F.w0.heap.size ≤ it)
    (h0 : ¬ pos < s.size → RG P F n ops Q rest ((d, .is (.tuple #[.bool false])) :: e) k)
    (h1 : pos < s.size → ∀ k', Turn1 k k' it → k' it = some (.stringIter s (pos + (Utf8.decode s pos).2)) → RG P F n ops Q rest ((d, .is (.tuple #[.bool true, .int .i64 (pos : Int), .int .i32 ((Utf8.decode s pos).1 : Int)])) :: e) k') : RG P F n ops Q (o :: rest) e k := by
  intro a w ha hs
  unfold wpList
  rw [if_pos (by simp [Region.wanted, hg])]
  have hev := evs_of (ops := ops) (o := o) (ag_looks ha)
  rw [hop] at hev
  have e1 := hev x (by simp [Op.operands]) _ hx
  have hwi := hs.sub _ _ hi
  have hrun := run_nextS (P := P) w o.type it s pos hwi
  by_cases h : pos < s.size
  · rw [if_pos h] at hrun
    have hx : (execOp a.eval o).run P w = .ok (.value (.tuple #[.bool true, .int .i64 (pos : Int), .int .i32 ((Utf8.decode s pos).1 : Int)])) { w with heap := w.heap.setIfInBounds it (.stringIter s (pos + (Utf8.decode s pos).2)) } := by
      simp [execOp, hop, e1, hrun]
    refine .inl (ex_value hx _ _ ?_)
    rintro u w' ⟨rfl, rfl⟩
    rw [hd]
    exact h1 h _ (turn1_upd k it _) (upd_same _ _ _) _ _ ((ha.heap hdet).put (d := some d) (p := .is _) hf rfl) (hs.turn (.inl hown) rfl rfl rfl (by simp) (heap_setObj hwi) fun i hi _ => by simp [Array.getElem?_setIfInBounds, Ne.symm hi])
  · rw [if_neg h] at hrun
    have hx : (execOp a.eval o).run P w = .ok (.value (.tuple #[.bool false])) w := by
      simp [execOp, hop, e1, hrun]
    refine .inl (ex_value hx _ _ ?_)
    rintro u w' ⟨rfl, rfl⟩
    rw [hd]
    exact h0 h _ _ (ha.put (d := some d) (p := .is _) hf rfl) hs
/-- Whole numbers of one kind, held against each other. -/
theorem d_cmp {op : BinOp} {t t' : TypeId} {x y : Operand} {kd : IntKind} {a b : Int} {r : Bool} (hop : o.op = .binOp op t x y t') (hx : opv e x = some (.int kd a)) (hy : opv e y = some (.int kd b)) (hr : cmpI op a b = some r) : Det P e k o (.bool r) := by
  intro ev w hev _
  rw [hop] at hev
  have h1 := hev x (by simp [Op.operands]) _ hx
  have h2 := hev y (by simp [Op.operands]) _ hy
  cases op <;> simp only [cmpI] at hr <;> cases hr <;> simp [execOp, hop, h1, h2, eqGuard, binOp, Op.intCmp, pure, Sem.run, bind, Sem.bind]
end
end Go.Wm

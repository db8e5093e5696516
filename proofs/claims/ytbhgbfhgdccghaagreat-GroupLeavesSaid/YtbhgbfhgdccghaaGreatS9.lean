/-
  Lists of the call's own. Conditions: none.
-/
import Derived.Test.YtbhgbfhgdccghaaGreatCoA
import Derived.Test.YtbhgbfhgdccghaaGreatCoB
import Derived.Test.YtbhgbfhgdccghaaGreatP2
import Derived.Test.YtbhgbfhgdccghaaGreatTypes
import Derived.Test.YtbhgbfhgdccghaaGreatP1
import Derived.Lib.Bytealg
import Derived.Lib.AppendStr
import Derived.Test.YtbhgbfhgdccghaaGreatDat
import Derived.Test.YtbhgbfhgdccghaaGreatIns
set_option linter.all false
namespace Go.Wm
variable [Dfr]
open Go.RowKit
/-- The low 16 bits. -/
def low16 (x : Int) : Nat := (BitVec.ofInt 64 x &&& BitVec.ofInt 64 65535).toNat
section
variable {P : Program} {o : Oper} {e : Env} {k : PH} {t t' : TypeId} {x y : Operand}
end
end Go.Wm
namespace Go.Wm
variable [Dfr]
open Go.RowKit

theorem dec_low {s : ByteArray} {i : Nat} (h : (s.get! i).toNat < 128) : Utf8.decode s i = ((s.get! i).toNat, 1) := by
  simp [Utf8.decode, h]
theorem dec_high {s : ByteArray} {i : Nat} (h : 128 ≤ (s.get! i).toNat) : 128 ≤ (Utf8.decode s i).1 ∧ 1 ≤ (Utf8.decode s i).2 := by
  unfold Utf8.decode
  simp only [Nat.add_zero]
  rw [if_neg (by omega)]
  split
  · split
    · rename_i h2; exact ⟨h2, by simp⟩
    · simp [Utf8.runeError]
  · split
    · split
      · rename_i h2
        simp only [Bool.and_eq_true, decide_eq_true_eq] at h2
        exact ⟨Nat.le_trans (by decide) h2.1, by simp⟩
      · simp [Utf8.runeError]
    · split
      · split
        · rename_i h2
          simp only [Bool.and_eq_true, decide_eq_true_eq] at h2
          exact ⟨Nat.le_trans (by decide) h2.1, by simp⟩
        · simp [Utf8.runeError]
      · simp [Utf8.runeError]

section
variable {P : Program} {F : Fr} {n : Nat} {ops : Array Oper} {Q : Exit → Act → World → Prop} {rest : List Oper} {o : Oper} {e : Env} {k : PH}
theorem a_rangeS {t : TypeId} {x : Operand} {s : ByteArray} [ht : TyU P t .string] (hop : o.op = .range t x) (hx : opv e x = some (.string s)) : Alc P e k o (fun b => .pointer (some ⟨b, 0, none⟩)) (.stringIter s 0) := by
  intro ev w hev hs
  rw [hop] at hev
  have hr : (Instr.range t (.string s)).run P w = .ok (.pointer (some ⟨w.heap.size, 0, none⟩)) (w.alloc (.stringIter s 0)) := by
    simp [Instr.range, run_underlying ht.eq, run_newObj_alloc]
  simp [execOp, hop, hev x (by simp [Op.operands]) _ hx, hr]
theorem run_nextS (w : World) (ty : TypeId) (it : Nat) (s : ByteArray) (pos : Nat) (hi : w.heap[it]? = some (.stringIter s pos)) :
    (Instr.next (.pointer (some ⟨it, 0, none⟩)) true ty).run P w = if pos < s.size then .ok (.tuple #[.bool true, .int .i64 (pos : Int), .int .i32 ((Utf8.decode s pos).1 : Int)]) { w with heap := w.heap.setIfInBounds it (.stringIter s (pos + (Utf8.decode s pos).2)) } else .ok (.tuple #[.bool false]) w := by
  by_cases h : pos < s.size
  · simp only [Instr.next, getObj, Sem.run_bind, Sem.run, hi, Result.andThen, h, if_true, setObj]
    rfl
  · simp only [Instr.next, getObj, Sem.run_bind, Sem.run, hi, Result.andThen, h, if_false]
    rfl
theorem r_nextS {x : Operand} {it pos d : Nat} {s : ByteArray} (hd : o.dst = some d) (hf : Nat.blt d n = true) (hdet : det e = true) (hg : o.guard = none) (hop : o.op = .next x true) (hx : opv e x = some (.pointer (some ⟨it, 0, none⟩)))
    (hi : k it = some (.stringIter s pos)) (hown : F.w0.heap.size ≤ it)
    (h0 : ¬ pos < s.size → RG P F n ops Q rest ((d, .is (.tuple #[.bool false])) :: e) k)
    (h1 : pos < s.size → ∀ k', Turn1 k k' it → k' it = some (.stringIter s (pos + (Utf8.decode s pos).2)) → RG P F n ops Q rest ((d, .is (.tuple #[.bool true, .int .i64 (pos : Int), .int .i32 ((Utf8.decode s pos).1 : Int)])) :: e) k') : RG P F n ops Q (o :: rest) e k := by
  intro a w ha hs
  unfold wpList
  rw [if_pos (by simp [Region.wanted, hg])]
  have hev := evs_of (ops := ops) (o := o) (ag_looks ha)
  rw [hop] at hev
  have e1 := hev x (by simp [Op.operands]) _ hx
  have hwi := hs.sub _ _ hi
  have hrun := run_nextS (P := P) w o.type it s pos hwi
  by_cases h : pos < s.size
  · rw [if_pos h] at hrun
    have hx : (execOp a.eval o).run P w = .ok (.value (.tuple #[.bool true, .int .i64 (pos : Int), .int .i32 ((Utf8.decode s pos).1 : Int)])) { w with heap := w.heap.setIfInBounds it (.stringIter s (pos + (Utf8.decode s pos).2)) } := by
      simp [execOp, hop, e1, hrun]
    refine .inl (ex_value hx _ _ ?_)
    rintro u w' ⟨rfl, rfl⟩
    rw [hd]
    exact h1 h _ (turn1_upd k it _) (upd_same _ _ _) _ _ ((ha.heap hdet).put (d := some d) (p := .is _) hf rfl) (hs.turn (.inl hown) rfl rfl rfl (by simp) (heap_setObj hwi) fun i hi _ => by simp [Array.getElem?_setIfInBounds, Ne.symm hi])
  · rw [if_neg h] at hrun
    have hx : (execOp a.eval o).run P w = .ok (.value (.tuple #[.bool false])) w := by
      simp [execOp, hop, e1, hrun]
    refine .inl (ex_value hx _ _ ?_)
    rintro u w' ⟨rfl, rfl⟩
    rw [hd]
    exact h0 h _ _ (ha.put (d := some d) (p := .is _) hf rfl) hs
/-- Whole numbers of one kind, held against each other. -/
theorem d_cmp {op : BinOp} {t t' : TypeId} {x y : Operand} {kd : IntKind} {a b : Int} {r : Bool} (hop : o.op = .binOp op t x y t') (hx : opv e x = some (.int kd a)) (hy : opv e y = some (.int kd b)) (hr : cmpI op a b = some r) : Det P e k o (.bool r) := by
  intro ev w hev _
  rw [hop] at hev
  have h1 := hev x (by simp [Op.operands]) _ hx
  have h2 := hev y (by simp [Op.operands]) _ hy
  cases op <;> simp only [cmpI] at hr <;> cases hr <;> simp [execOp, hop, h1, h2, eqGuard, binOp, Op.intCmp, pure, Sem.run, bind, Sem.bind]
end
end Go.Wm
namespace Go.Wm
open Go.RowKit Go.Proofs
attribute [local irreducible] RG CG EG WA Loc Det Alc CT Exit.then Exit.inBlock Code.wp bodyPost
def okB (x : UInt8) : Bool := decide (33 ≤ x.toNat) && decide (x.toNat ≤ 126)
/-- Is a text a name? -/
def isName (s : ByteArray) : Bool := decide (∀ i, (h : i < s.size) → okB s[i] = true) && (decide (1 ≤ s.size) && decide (s.size ≤ 64))
def okR (r : Int) : Bool := !(decide (r < 33) || decide (r > 126))
def allOk (s : ByteArray) : Bool := decide (∀ i, (h : i < s.size) → okB s[i] = true)
theorem get_at {s : ByteArray} {i : Nat} (h : i < s.size) : s.get! i = s[i] := by
  simp only [ByteArray.get!]
  rw [getElem!_pos s.data i h]
  rfl
theorem isName_all (s : ByteArray) : isName s = (decide (s ≠ ⟨#[]⟩) && (decide (s.size ≤ 64) && allOk s)) := by
  unfold isName
  have : decide (1 ≤ s.size) = decide (s ≠ ⟨#[]⟩) := by
    rw [decide_eq_decide]
    constructor
    · rintro h rfl
      exact absurd h (by decide)
    · intro h
      rcases Nat.eq_zero_or_pos s.size with h0 | h0
      · exfalso
        apply h
        apply ByteArray.ext
        exact Array.eq_empty_of_size_eq_zero h0
      · exact h0
  rw [← this]
  show (allOk s && _) = _
  cases allOk s <;> simp

set_option maxHeartbeats 400000 in
theorem name1C_ct {k : PH} (r : Int) : CT Tryz.prog 94 #[.int .i32 r] k (fun _ v => v = .bool (!okR r)) := by
  refine ct_of_body (l := [_]) Tryz.func94 rfl Tryz.ntmps94 (by simp) (fun _ _ _ _ h => h) fun F hF0 hFm => ?_
  repeat (first | refine cg_seq ?_ | refine cg_region ?_ | refine rg_nil ?_ | refine eg_then ?_ | refine qsp ?_)
  refine rs rfl rfl (loc_det rfl (d_cmp rfl rfl rfl rfl)) ?_
  repeat (first | refine qsp ?_)
  cases q : decide (r < 33)
  · repeat (first | refine qsp ?_)
    refine rs rfl rfl (loc_det rfl (d_cmp rfl rfl rfl rfl)) ?_
    repeat (first | refine rg_nil ?_ | refine eg_then ?_ | refine qsp ?_ | refine cg_ret ?_)
    refine eg_return rfl rfl ?_
    simp [okR]
    simp at q
    intro; omega
  · repeat (first | refine rg_nil ?_ | refine eg_then ?_ | refine qsp ?_ | refine qso ?_ | refine cg_ret ?_)
    refine eg_return rfl rfl ?_
    simp [okR, q]

set_option maxHeartbeats 400000 in
theorem indexFuncSC_ct {k : PH} (s : ByteArray) (hs : s.size ≤ maxLen) : CT Tryz.prog 117 #[.string s, .func (.func 94) #[] #[], .bool true] k (fun _ v => ∃ n, v = .int .i64 n ∧ decide (n < 0) = allOk s) := by
  refine ct_of_body (l := [_, _, _]) Tryz.func117 rfl Tryz.ntmps117 (by simp) (fun _ _ _ _ h => h) fun F hF0 hFm => ?_
  unfold maxLen at hs
  repeat (first | refine cg_seq ?_ | refine cg_region ?_ | refine rg_nil ?_ | refine eg_then ?_ | refine qsp ?_)
  refine rb rfl rfl rfl rfl (a_rangeS rfl rfl) ?_; intro b1 k1 hb1 hN1 hle1 hk1
  repeat (first | refine rg_nil ?_ | refine eg_then ?_ | refine cg_block ?_)
  refine cg_loop (fun (pos : Nat) e k' => Le k k' ∧ k' b1 = some (.stringIter s pos) ∧ pos ≤ s.size ∧ (∀ j, (h : j < s.size) → j < pos → okB s[j] = true) ∧ e = [(1, .is (.func (.func 94) #[] #[])), (2, .is (.bool true)), (10, .is (.pointer (some ⟨b1, 0, none⟩)))])
    (fun pos => s.size - pos) 0 ⟨hle1, hk1, Nat.zero_le _, fun j _ hj => by omega, rfl⟩ ⟨rfl, rfl, rfl, trivial⟩ ?_
  rintro pos e k2 ⟨hle, hit, hpos, hno, rfl⟩
  refine cg_seq ?_
  refine cg_region ?_
  refine r_nextS rfl rfl rfl rfl rfl rfl hit hN1 (fun h => ?_) (fun h => ?_)
  · repeat (first | refine cg_seq ?_ | refine cg_region ?_ | refine rg_nil ?_ | refine eg_then ?_ | refine qsp ?_ | refine cg_cond_false rfl ?_ | refine cg_ret ?_ | refine cg_exit ?_ | refine eg_then_exit ?_ | refine eg_in_exit ?_)
    refine eg_return rfl rfl ?_
    have hin : pos = s.size := by omega
    refine ⟨-1, rfl, ?_⟩
    unfold allOk
    rw [decide_eq_true (fun j hj => hno j hj (by omega))]
    rfl
  · intro k3 ht3 hk3
    have hle3 := ht3 k hle hb1
    have hd : okR ((Utf8.decode s pos).1 : Int) = okB s[pos] ∧ (okB s[pos] = true → (Utf8.decode s pos).2 = 1) := by
      by_cases hlow : (s.get! pos).toNat < 128
      · have := dec_low hlow
        rw [this]
        rw [get_at h] at hlow ⊢
        refine ⟨?_, fun _ => rfl⟩
        unfold okR okB
        rw [Bool.eq_iff_iff]
        simp
        omega
      · have := dec_high (by omega : 128 ≤ (s.get! pos).toNat)
        rw [get_at h] at hlow
        have hb : okB s[pos] = false := by
          unfold okB
          simp
          omega
        rw [hb]
        refine ⟨?_, fun h => by cases h⟩
        unfold okR
        simp
        omega
    repeat (first | refine cg_seq ?_ | refine cg_region ?_ | refine rg_nil ?_ | refine eg_then ?_ | refine qsp ?_ | refine cg_cond_true rfl ?_ | refine cg_skip ?_ | refine cg_block ?_)
    refine rs rfl rfl (loc_call_is rfl rfl rfl rfl (name1C_ct (((Utf8.decode s pos).1 : Nat) : Int))) ?_
    repeat (first | refine qsp ?_)
    refine rs rfl rfl (loc_det rfl (d_eqb rfl rfl rfl)) ?_
    cases q : okR ((Utf8.decode s pos).1 : Int)
    · repeat (first | refine cg_seq ?_ | refine cg_region ?_ | refine rg_nil ?_ | refine eg_then ?_ | refine qsp ?_ | refine cg_cond_true rfl ?_ | refine cg_ret ?_ | refine eg_then_ret ?_ | refine eg_in_ret ?_)
      refine eg_return rfl rfl ⟨(pos : Int), rfl, ?_⟩
      have hb : okB s[pos] = false := by rw [← hd.1]; exact q
      have : allOk s = false := by
        unfold allOk
        rw [decide_eq_false]
        intro ha
        rw [ha pos h] at hb
        cases hb
      rw [this, decide_eq_false]
      omega
    · have hb : okB s[pos] = true := by rw [← hd.1]; exact q
      have h1 := hd.2 hb
      rw [h1] at hk3
      repeat (first | refine rg_nil ?_ | refine eg_then ?_ | refine cg_cond_false rfl ?_ | refine cg_skip ?_ | refine eg_in_normal ?_)
      refine eg_again (pos + 1) _ ⟨hle3, hk3, h, fun j hj hji => ?_, rfl⟩ (by omega) ⟨rfl, rfl, rfl, trivial⟩
      by_cases e : j = pos
      · subst e; exact hb
      · exact hno j hj (by omega)

set_option maxHeartbeats 400000 in
theorem indexFuncStC_ct {k : PH} (s : ByteArray) (hs : s.size ≤ maxLen) : CT Tryz.prog 112 #[.string s, .func (.func 94) #[] #[]] k (fun _ v => ∃ n, v = .int .i64 n ∧ decide (n < 0) = allOk s) := by
  refine ct_of_body (l := [_, _]) Tryz.func112 rfl Tryz.ntmps112 (by simp) (fun _ _ _ _ h => h) fun F hF0 hFm => ?_
  repeat (first | refine cg_seq ?_ | refine cg_region ?_ | refine rg_nil ?_ | refine eg_then ?_ | refine qsp ?_)
  refine rv rfl rfl rfl (loc_call rfl rfl rfl rfl (fun k k' v hle h => h) (indexFuncSC_ct s hs)) ?_
  rintro k1 hle1 _ ⟨n, rfl, hn⟩
  repeat (first | refine rg_nil ?_ | refine eg_then ?_ | refine qsp ?_ | refine cg_ret ?_)
  exact eg_return rfl rfl ⟨n, rfl, hn⟩

set_option maxHeartbeats 400000 in
theorem containsFuncS_ct {k : PH} (s : ByteArray) (hs : s.size ≤ maxLen) : CT Tryz.prog 93 #[.string s, .func (.func 94) #[] #[]] k (fun _ v => v = .bool (!allOk s)) := by
  refine ct_of_body (l := [_, _]) Tryz.func93 rfl Tryz.ntmps93 (by simp) (fun _ _ _ _ h => h) fun F hF0 hFm => ?_
  repeat (first | refine cg_seq ?_ | refine cg_region ?_ | refine rg_nil ?_ | refine eg_then ?_ | refine qsp ?_)
  refine rv rfl rfl rfl (loc_call rfl rfl rfl rfl (fun k k' v hle h => h) (indexFuncStC_ct s hs)) ?_
  rintro k1 hle1 _ ⟨n, rfl, hn⟩
  repeat (first | refine rg_nil ?_ | refine eg_then ?_ | refine qsp ?_ | refine cg_ret ?_)
  refine eg_return rfl rfl ?_
  rw [← hn]
  by_cases h : n < 0 <;> simp [h] <;> omega
set_option maxHeartbeats 400000 in
theorem name_ct {k : PH} (s : ByteArray) (hs : s.size ≤ maxLen) : CT Tryz.prog 48 #[.string s] k (fun _ v => v = .bool (isName s)) := by
  refine ct_of_body (l := [_]) Tryz.func48 rfl Tryz.ntmps48 (by simp) (fun _ _ _ _ h => h) fun F hF0 hFm => ?_
  have hall := isName_all s
  repeat (first | refine cg_seq ?_ | refine cg_region ?_ | refine rg_nil ?_ | refine eg_then ?_ | refine qsp ?_)
  cases q1 : decide (s = ⟨#[]⟩)
  case true =>
    have q1 := of_decide_eq_true q1
    repeat (first | refine rg_nil ?_ | refine eg_then ?_ | refine qsp ?_ | refine qso ?_ | refine cg_ret ?_)
    refine eg_return rfl rfl ?_
    rw [hall, q1]
    simp
  have hne := of_decide_eq_false q1
  repeat (first | refine qsp ?_)
  refine rs rfl rfl (loc_det rfl (d_len_str rfl rfl)) ?_
  repeat (first | refine qsp ?_)
  cases q2 : decide ((s.size : Int) ≤ 64)
  · repeat (first | refine rg_nil ?_ | refine eg_then ?_ | refine qsp ?_ | refine qso ?_ | refine cg_ret ?_)
    refine eg_return rfl rfl ?_
    have : ¬ s.size ≤ 64 := by simp at q2; omega
    rw [hall]
    simp [this]
  have h2 : s.size ≤ 64 := by simp at q2; omega
  repeat (first | refine qsp ?_)
  refine rs rfl rfl (loc_call_is rfl rfl rfl rfl (containsFuncS_ct s hs)) ?_
  repeat (first | refine rg_nil ?_ | refine eg_then ?_ | refine qsp ?_ | refine cg_ret ?_)
  refine eg_return rfl rfl ?_
  rw [hall]
  simp [h2, hne]
end Go.Wm
namespace Go.Wm
open Go.RowKit Go.Proofs
theorem cmpBytes_cases : ∀ (a b : List UInt8), (Lib.compareBytes a b = -1 ∧ a < b) ∨ (Lib.compareBytes a b = 0 ∧ a = b) ∨ (Lib.compareBytes a b = 1 ∧ ¬ a < b ∧ a ≠ b)
  | [], [] => .inr (.inl ⟨rfl, rfl⟩)
  | [], b :: ys => .inl ⟨rfl, by simp⟩
  | a :: xs, [] => .inr (.inr ⟨rfl, by simp, by simp⟩)
  | a :: xs, b :: ys => by
    unfold Lib.compareBytes
    by_cases h : a < b
    · rw [if_pos h]
      exact .inl ⟨rfl, by rw [List.cons_lt_cons_iff]; exact .inl h⟩
    · rw [if_neg h]
      by_cases h2 : b < a
      · rw [if_pos h2]
        have hne : a ≠ b := by rintro rfl; exact h h2
        refine .inr (.inr ⟨rfl, ?_, by simp [hne]⟩)
        rw [List.cons_lt_cons_iff]
        rintro (h3 | ⟨h3, _⟩)
        · exact h h3
        · exact hne h3
      · rw [if_neg h2]
        have he : a = b := by
          apply UInt8.le_antisymm
          · exact UInt8.not_lt.1 h2
          · exact UInt8.not_lt.1 h
        subst he
        rcases cmpBytes_cases xs ys with ⟨h3, h4⟩ | ⟨h3, h4⟩ | ⟨h3, h4, h5⟩
        · exact .inl ⟨h3, by rw [List.cons_lt_cons_iff]; exact .inr ⟨rfl, h4⟩⟩
        · exact .inr (.inl ⟨h3, by rw [h4]⟩)
        · refine .inr (.inr ⟨h3, ?_, by simp [h5]⟩)
          rw [List.cons_lt_cons_iff]
          rintro (h6 | ⟨_, h6⟩)
          · exact h h6
          · exact h4 h6
theorem bytes_ext {a b : ByteArray} (h : a.data.toList = b.data.toList) : a = b := ByteArray.ext (Array.toList_inj.1 h)
theorem cmpStr_bytes (a b : ByteArray) : Lib.compareBytes a.data.toList b.data.toList = cmpStr a b := by
  unfold cmpStr
  rcases cmpBytes_cases a.data.toList b.data.toList with ⟨h1, h2⟩ | ⟨h1, h2⟩ | ⟨h1, h2, h3⟩
  · rw [h1, if_pos h2]
  · rw [h1, h2, if_neg (List.lt_irrefl _), if_neg (List.lt_irrefl _)]
  · rw [h1, if_neg h2, if_pos (list_gt h2 h3)]
theorem cmpStr_lt {a b : ByteArray} : cmpStr a b < 0 ↔ a.data.toList < b.data.toList := by
  unfold cmpStr
  split
  · rename_i h; simp [h]
  · rename_i h
    split <;> simp [h]
theorem cmpStr_gt {a b : ByteArray} : 0 < cmpStr a b ↔ b.data.toList < a.data.toList := by
  unfold cmpStr
  split
  · rename_i h
    constructor
    · intro h2; omega
    · intro h2; exact absurd (List.lt_trans h h2) (List.lt_irrefl _)
  · rename_i h
    split
    · rename_i h2; simp [h2]
    · rename_i h2; simp [h2]
theorem cmpStr_eq {a b : ByteArray} : cmpStr a b = 0 ↔ a = b := by
  constructor
  · intro h
    by_cases he : a.data.toList = b.data.toList
    · exact bytes_ext he
    · by_cases h1 : a.data.toList < b.data.toList
      · have := cmpStr_lt.2 h1; omega
      · have := cmpStr_gt.2 (list_gt h1 he); omega
  · rintro rfl
    unfold cmpStr
    rw [if_neg (List.lt_irrefl _), if_neg (List.lt_irrefl _)]
theorem ordL_str : OrdL cmpStr where
  tr a b c h1 h2 := cmpStr_lt.2 (List.lt_trans (cmpStr_lt.1 h1) (cmpStr_lt.1 h2))
  sw a b := by rw [cmpStr_lt, cmpStr_gt]
  eqL a b h c := by rw [cmpStr_eq.1 h]
  eqR a b h c := by rw [cmpStr_eq.1 h]
theorem ordL_int : OrdL cmpInt where
  tr a b c h1 h2 := by
    unfold cmpInt at *
    repeat' split at h1
    all_goals repeat' split at h2
    all_goals repeat' split
    all_goals omega
  sw a b := by
    unfold cmpInt
    repeat' split
    all_goals omega
  eqL a b h c := by
    have : a = b := by
      unfold cmpInt at h
      repeat' split at h
      all_goals omega
    rw [this]
  eqR a b h c := by
    have : a = b := by
      unfold cmpInt at h
      repeat' split at h
      all_goals omega
    rw [this]
theorem cmpInt_eq {a b : Int} : cmpInt a b = 0 ↔ a = b := by
  unfold cmpInt
  repeat' split
  all_goals omega
theorem ordL_pull {α β : Type} {f : β → β → Int} (p : α → β) (h : OrdL f) : OrdL fun a b => f (p a) (p b) where
  tr := fun a b c => h.tr _ _ _
  sw := fun a b => h.sw _ _
  eqL := fun a b e c => h.eqL _ _ e _
  eqR := fun a b e c => h.eqR _ _ e _
theorem OrdL.zero {α : Type} {f : α → α → Int} (h : OrdL f) {a b : α} : f a b = 0 ↔ f b a = 0 := by
  have := h.sw a b; have := h.sw b a
  omega
theorem ordL_lex {α : Type} {f g : α → α → Int} (hf : OrdL f) (hg : OrdL g) : OrdL fun a b => if f a b ≠ 0 then f a b else g a b where
  tr := fun a b c h1 h2 => by
    have f1 := hf.tr a b c
    have g1 := hg.tr a b c
    have e1 := fun h => hf.eqL a b h c
    have e2 := fun h => hf.eqR b c h a
    have s1 := hf.sw a c; have s2 := hf.sw c a
    have s3 := hf.sw b c; have s4 := hf.sw c b
    have s5 := hf.sw a b; have s6 := hf.sw b a
    have e3 := fun h => hf.eqR a b h c
    split at h1 <;> split at h2 <;> split <;> simp_all <;> omega
  sw := fun a b => by
    have s1 := hf.sw a b; have s2 := hf.sw b a
    have s3 := hg.sw a b
    split <;> split <;> omega
  eqL := fun a b h c => by
    have hf0 : f a b = 0 := by
      split at h
      · omega
      · omega
    have hg0 : g a b = 0 := by simpa [hf0] using h
    have e1 := hf.eqL a b hf0 c
    have e2 := hf.eqR a b hf0 c
    have e3 := hg.eqL a b hg0 c
    have s1 := hf.sw a c; have s2 := hf.sw c a
    have s3 := hf.sw b c; have s4 := hf.sw c b
    split <;> split <;> omega
  eqR := fun a b h c => by
    have hf0 : f a b = 0 := by
      split at h
      · omega
      · omega
    have hg0 : g a b = 0 := by simpa [hf0] using h
    have e1 := hf.eqL a b hf0 c
    have e2 := hf.eqR a b hf0 c
    have e3 := hg.eqR a b hg0 c
    have s1 := hf.sw a c; have s2 := hf.sw c a
    have s3 := hf.sw b c; have s4 := hf.sw c b
    split <;> split <;> omega
theorem right_split {α : Type} {ord : α → α → Int} (ho : OrdL ord) {may : α → Bool} {l : List α} (h : RightP ord may l) (x : α) : ∀ i j, (hi : i < l.length) → (hj : j < l.length) → i < j → ord l[j] x < 0 → ord l[i] x < 0 := by
  intro i j hi hj hij hlt
  exact ho.tr _ _ _ (List.pairwise_iff_getElem.1 ((right_iff ho).1 h).2 i j hi hj hij) hlt
theorem right_met {α : Type} {ord : α → α → Int} (ho : OrdL ord) {may : α → Bool} {l : List α} (h : RightP ord may l) (x : α) : metF (fun y => ord y x) l = l.any fun y => decide (ord y x = 0) := by
  rw [Bool.eq_iff_iff]
  constructor
  · intro hm
    obtain ⟨hl, hz⟩ := metF_lt hm
    exact List.any_eq_true.2 ⟨_, List.getElem_mem hl, by simpa using hz⟩
  · intro ha
    obtain ⟨y, hy, hz⟩ := List.any_eq_true.1 ha
    have hz : ord y x = 0 := by simpa using hz
    apply Classical.byContradiction
    intro hn
    have hp := ((right_iff ho).1 h).2
    rw [← List.take_append_drop (posF (fun y => ord y x) l) l] at hy
    rcases List.mem_append.1 hy with hy | hy
    · have := take_below (f := fun y => ord y x) y hy
      omega
    · have := drop_above ho hp hn y hy
      have := ho.sw x y
      omega

def ordTp (a b : Tp) : Int := orInt [cmpStr a.topic b.topic, cmpInt a.part b.part, cmpInt a.home b.home]
def tpOk (t : Tp) : Bool := isName t.topic && (decide (0 ≤ t.part) && (decide (t.part < 6) && (decide (0 ≤ t.home) && decide (t.home < 4))))
def timeOk (n : Int) : Bool := decide (0 ≤ n) && decide (n ≤ 1099511627776)
def memOk (m : Member) : Bool := isName m.id && ((decide (m.static = ⟨#[]⟩) || isName m.static) && (timeOk m.beat && (decide (m.subs.length ≤ 12) && (decide (RightP cmpStr isName m.subs) && decide (RightP ordTp tpOk m.own)))))
def ordId (a b : Member) : Int := cmpStr a.id b.id
def stateG (l : List Member) : Int := if l.length = 0 then 0 else if l.any (fun m => !m.joined) = true then 1 else 2
def statics (l : List Member) : List ByteArray := (l.map (·.static)).filter fun s => !decide (s = ⟨#[]⟩)
def owns (l : List Member) : List Tp := l.flatMap (·.own)
def chkG (g : Group) : Int :=
  if 64 < g.l.length then 2
  else if ¬ (isName g.name = true ∧ 0 ≤ g.gen ∧ g.gen ≤ 1048576 ∧ g.state = stateG g.l ∧ RightP ordId memOk g.l) then 1
  else if ¬ ((statics g.l).Nodup ∧ (owns g.l).Nodup) then 1 else 0
theorem orInt3 (x y z : Int) : orInt [x, y, z] = if x ≠ 0 then x else if y ≠ 0 then y else z := by
  unfold orInt
  by_cases hx : x = 0 <;> by_cases hy : y = 0 <;> by_cases hz : z = 0 <;> simp_all [orInt]
theorem ordL_tp : OrdL ordTp := by
  have h := ordL_lex (ordL_pull Tp.topic ordL_str) (ordL_lex (ordL_pull Tp.part ordL_int) (ordL_pull Tp.home ordL_int))
  have e : ordTp = fun a b => if cmpStr a.topic b.topic ≠ 0 then cmpStr a.topic b.topic else if cmpInt a.part b.part ≠ 0 then cmpInt a.part b.part else cmpInt a.home b.home := by
    funext a b
    exact orInt3 _ _ _
  rw [e]; exact h
theorem ordTp_eq {a b : Tp} : ordTp a b = 0 ↔ a = b := by
  unfold ordTp
  rw [orInt3]
  constructor
  · intro h
    split at h
    · rename_i h1; exact absurd h h1
    rename_i h1
    split at h
    · rename_i h2; exact absurd h h2
    rename_i h2
    cases a; cases b
    simp only [Decidable.not_not] at h1 h2
    rw [cmpStr_eq] at h1
    rw [cmpInt_eq] at h2 h
    dsimp only at h1 h2 h
    rw [h1, h2, h]
  · rintro rfl
    simp [cmpStr_eq.2, cmpInt_eq.2]
theorem ordL_id : OrdL ordId := ordL_pull Member.id ordL_str
end Go.Wm
namespace Go.Wm
open Go.RowKit Go.Proofs
attribute [local irreducible] RG CG EG WA Loc Det Alc CT Exit.then Exit.inBlock Code.wp bodyPost
set_option maxHeartbeats 1000000 in
theorem indexFunc_ct {k : PH} {a : Option Addr} {c : Nat} {l : List Member} (hl : Sl tMember k a c l) {g : FuncId} [FnOk Tryz.prog g] {cap : Array Value} (f : Member → Bool)
    (hf : ∀ m ∈ l, ∀ cm, tMember.rep k cm m → CT Tryz.prog g (#[] ++ [.agg cm.toArray].toArray ++ cap) k (fun _ v => v = .bool (f m))) :
    CT Tryz.prog 55 #[.slice a l.length c, .func (.func g) #[] cap] k (fun _ v => v = .int .i64 (idxF l f)) := by
  refine ct_of_body (l := [_, _]) Tryz.func55 rfl Tryz.ntmps55 (by simp) (fun _ _ _ _ h => h) fun F hF0 hFm => ?_
  have b1 := hl.cap; have b2 := hl.max; unfold maxLen at b2
  repeat (first | refine cg_seq ?_ | refine cg_region ?_ | refine rg_nil ?_ | refine eg_then ?_ | refine qsp ?_ | refine qsn ?_ | refine qsa ?_ | refine qss ?_ | refine qsi ?_ | refine qsz ?_ | refine qsl ?_ | refine qsg ?_ | refine qsf ?_ | refine qsd ?_ | refine qsE ?_ | refine qsX ?_ | refine qse ?_ | refine qsx ?_ | refine qso ?_ | refine cg_cond_true rfl ?_ | refine cg_cond_false rfl ?_ | refine cg_skip ?_ | refine cg_block ?_ | refine eg_in_normal ?_ | refine cg_ret ?_ | refine eg_then_ret ?_ | refine eg_in_ret ?_ | refine cg_exit ?_ | refine eg_then_exit ?_ | refine eg_in_exit ?_ | refine eg_in_other rfl ?_)
  refine cg_loop (fun (i : Nat) e k' => k' = k ∧ i ≤ l.length ∧ (∀ x ∈ l.take i, f x = false) ∧ e = [(0, .is (.slice a l.length c)), (1, .is (.func (.func g) #[] cap)), (7, .is (.int .i64 (l.length : Int))), (8, .is (.int .i64 (i : Int)))])
    (fun i => l.length - i) 0 ⟨rfl, Nat.zero_le _, by simp, rfl⟩ ⟨rfl, rfl, rfl, rfl, trivial⟩ ?_
  rintro i e k1 ⟨rfl, hi, hno, rfl⟩
  repeat (first | refine cg_seq ?_ | refine cg_region ?_ | refine rg_nil ?_ | refine eg_then ?_ | refine qsp ?_ | refine qsn ?_ | refine qsa ?_ | refine qss ?_ | refine qsi ?_ | refine qsz ?_ | refine qsl ?_ | refine qsg ?_ | refine qsf ?_ | refine qsd ?_ | refine qsE ?_ | refine qsX ?_ | refine qse ?_ | refine qsx ?_ | refine qso ?_ | refine cg_cond_true rfl ?_ | refine cg_cond_false rfl ?_ | refine cg_skip ?_ | refine cg_block ?_ | refine eg_in_normal ?_ | refine cg_ret ?_ | refine eg_then_ret ?_ | refine eg_in_ret ?_ | refine cg_exit ?_ | refine eg_then_exit ?_ | refine eg_in_exit ?_ | refine eg_in_other rfl ?_)
  refine cg_cond rfl (fun h => ?_) (fun h => ?_)
  · have hlt : i < l.length := by simpa using h
    obtain ⟨bx, ox, cx, rfl, hrep, hcx⟩ := hl.el i l[i] (List.getElem?_eq_getElem hlt)
    have hcl := tMember.len hrep
    repeat (first | refine cg_seq ?_ | refine cg_region ?_ | refine rg_nil ?_ | refine eg_then ?_ | refine qsp ?_ | refine qsn ?_ | refine qsa ?_ | refine qss ?_ | refine qsi ?_ | refine qsz ?_ | refine qsl ?_ | refine qsg ?_ | refine qsf ?_ | refine qsd ?_ | refine qsE ?_ | refine qsX ?_ | refine qse ?_ | refine qsx ?_ | refine qso ?_ | refine cg_cond_true rfl ?_ | refine cg_cond_false rfl ?_ | refine cg_skip ?_ | refine cg_block ?_ | refine eg_in_normal ?_ | refine cg_ret ?_ | refine eg_then_ret ?_ | refine eg_in_ret ?_ | refine cg_exit ?_ | refine eg_then_exit ?_ | refine eg_in_exit ?_ | refine eg_in_other rfl ?_)
    refine rs rfl rfl (loc_det rfl (d_load_agg (vs := cx) rfl rfl rfl hcl hcx)) ?_
    refine rs rfl rfl (loc_call_is rfl rfl rfl rfl (hf l[i] (List.getElem_mem hlt) cx hrep)) ?_
    repeat (first | refine cg_seq ?_ | refine cg_region ?_ | refine rg_nil ?_ | refine eg_then ?_ | refine qsp ?_ | refine qsn ?_ | refine qsa ?_ | refine qss ?_ | refine qsi ?_ | refine qsz ?_ | refine qsl ?_ | refine qsg ?_ | refine qsf ?_ | refine qsd ?_ | refine qsE ?_ | refine qsX ?_ | refine qse ?_ | refine qsx ?_ | refine qso ?_ | refine cg_cond_true rfl ?_ | refine cg_cond_false rfl ?_ | refine cg_skip ?_ | refine cg_block ?_ | refine eg_in_normal ?_ | refine cg_ret ?_ | refine eg_then_ret ?_ | refine eg_in_ret ?_ | refine cg_exit ?_ | refine eg_then_exit ?_ | refine eg_in_exit ?_ | refine eg_in_other rfl ?_)
    by_cases hw : f l[i] = true
    · refine cg_cond_true (by simp [opv, get, Nat.beq, hw]) ?_
      repeat (first | refine cg_seq ?_ | refine cg_region ?_ | refine rg_nil ?_ | refine eg_then ?_ | refine qsp ?_ | refine qsn ?_ | refine qsa ?_ | refine qss ?_ | refine qsi ?_ | refine qsz ?_ | refine qsl ?_ | refine qsg ?_ | refine qsf ?_ | refine qsd ?_ | refine qsE ?_ | refine qsX ?_ | refine qse ?_ | refine qsx ?_ | refine qso ?_ | refine cg_cond_true rfl ?_ | refine cg_cond_false rfl ?_ | refine cg_skip ?_ | refine cg_block ?_ | refine eg_in_normal ?_ | refine cg_ret ?_ | refine eg_then_ret ?_ | refine eg_in_ret ?_ | refine cg_exit ?_ | refine eg_then_exit ?_ | refine eg_in_exit ?_ | refine eg_in_other rfl ?_)
      refine eg_return rfl rfl ?_
      rw [idxF_at hlt hw hno]
    · refine cg_cond_false (by simp [opv, get, Nat.beq, hw]) ?_
      repeat (first | refine cg_seq ?_ | refine cg_region ?_ | refine rg_nil ?_ | refine eg_then ?_ | refine qsp ?_ | refine qsn ?_ | refine qsa ?_ | refine qss ?_ | refine qsi ?_ | refine qsz ?_ | refine qsl ?_ | refine qsg ?_ | refine qsf ?_ | refine qsd ?_ | refine qsE ?_ | refine qsX ?_ | refine qse ?_ | refine qsx ?_ | refine qso ?_ | refine cg_cond_true rfl ?_ | refine cg_cond_false rfl ?_ | refine cg_skip ?_ | refine cg_block ?_ | refine eg_in_normal ?_ | refine cg_ret ?_ | refine eg_then_ret ?_ | refine eg_in_ret ?_ | refine cg_exit ?_ | refine eg_then_exit ?_ | refine eg_in_exit ?_ | refine eg_in_other rfl ?_)
      refine eg_again (i + 1) _ ⟨rfl, hlt, fun x hx => ?_, rfl⟩ (by omega) ⟨rfl, rfl, rfl, rfl, trivial⟩
      rw [mem_take_succ hlt] at hx
      rcases hx with hx | hx
      · exact hno x hx
      · rw [hx]; simpa using hw
  · repeat (first | refine cg_seq ?_ | refine cg_region ?_ | refine rg_nil ?_ | refine eg_then ?_ | refine qsp ?_ | refine qsn ?_ | refine qsa ?_ | refine qss ?_ | refine qsi ?_ | refine qsz ?_ | refine qsl ?_ | refine qsg ?_ | refine qsf ?_ | refine qsd ?_ | refine qsE ?_ | refine qsX ?_ | refine qse ?_ | refine qsx ?_ | refine qso ?_ | refine cg_cond_true rfl ?_ | refine cg_cond_false rfl ?_ | refine cg_skip ?_ | refine cg_block ?_ | refine eg_in_normal ?_ | refine cg_ret ?_ | refine eg_then_ret ?_ | refine eg_in_ret ?_ | refine cg_exit ?_ | refine eg_then_exit ?_ | refine eg_in_exit ?_ | refine eg_in_other rfl ?_)
    refine eg_return rfl rfl ?_
    have : i = l.length := by simp at h; omega
    rw [this, List.take_length] at hno
    rw [idxF_no hno]
set_option maxHeartbeats 1000000 in
theorem target1_ct {k : PH} {m : Member} {cm : List Value} (hm : tMember.rep k cm m) (tp : Tp) {bt : Nat} (hb : Cells k bt 0 tp.vs) :
    CT Tryz.prog 72 #[.agg cm.toArray, .pointer (some ⟨bt, 0, none⟩)] k (fun _ v => v = .bool (decide (tp ∈ m.own) && decide (tp.topic ∈ m.subs))) := by
  have hm' := hm
  obtain ⟨sa, sc, oa, oc, rfl, ⟨hsub, hown⟩, hid⟩ := hm
  refine ct_of_body (l := [_, _]) Tryz.func72 rfl Tryz.ntmps72 (by simp) (fun _ _ _ _ h => h) fun F hF0 hFm => ?_
  repeat (first | refine cg_seq ?_ | refine cg_region ?_ | refine rg_nil ?_ | refine eg_then ?_ | refine qsp ?_ | refine qsn ?_ | refine qsa ?_ | refine qss ?_ | refine qsi ?_ | refine qsz ?_ | refine qsl ?_ | refine qsg ?_ | refine qsf ?_ | refine qsd ?_ | refine qsE ?_ | refine qsX ?_ | refine qse ?_ | refine qsx ?_ | refine qso ?_ | refine cg_cond_true rfl ?_ | refine cg_cond_false rfl ?_ | refine cg_skip ?_ | refine cg_block ?_ | refine eg_in_normal ?_ | refine cg_ret ?_ | refine eg_then_ret ?_ | refine eg_in_ret ?_ | refine cg_exit ?_ | refine eg_then_exit ?_ | refine eg_in_exit ?_ | refine eg_in_other rfl ?_)
  refine rb rfl rfl rfl rfl (a_box rfl rfl) ?_; intro b2 k2 hb2 hN2 hle2 hk2
  have c2 := cells_at (vs := Member.cs m sa sc oa oc) hk2 rfl
  have f3 := c2.one (i := 3) rfl
  have hb' := hb.le hle2
  repeat (first | refine cg_seq ?_ | refine cg_region ?_ | refine rg_nil ?_ | refine eg_then ?_ | refine qsp ?_ | refine qsn ?_ | refine qsa ?_ | refine qss ?_ | refine qsi ?_ | refine qsz ?_ | refine qsl ?_ | refine qsg ?_ | refine qsf ?_ | refine qsd ?_ | refine qsE ?_ | refine qsX ?_ | refine qse ?_ | refine qsx ?_ | refine qso ?_ | refine cg_cond_true rfl ?_ | refine cg_cond_false rfl ?_ | refine cg_skip ?_ | refine cg_block ?_ | refine eg_in_normal ?_ | refine cg_ret ?_ | refine eg_then_ret ?_ | refine eg_in_ret ?_ | refine cg_exit ?_ | refine eg_then_exit ?_ | refine eg_in_exit ?_ | refine eg_in_other rfl ?_)
  by_cases h1 : tp ∈ m.own
  · have hc := containsTp_ct (hown.le hle2) tp
    rw [decide_eq_true h1] at hc
    refine rs rfl rfl (loc_call_is rfl rfl rfl rfl (hc)) ?_
    repeat (first | refine cg_seq ?_ | refine cg_region ?_ | refine rg_nil ?_ | refine eg_then ?_ | refine qsp ?_ | refine qsn ?_ | refine qsa ?_ | refine qss ?_ | refine qsi ?_ | refine qsz ?_ | refine qsl ?_ | refine qsg ?_ | refine qsf ?_ | refine qsd ?_ | refine qsE ?_ | refine qsX ?_ | refine qse ?_ | refine qsx ?_ | refine qso ?_ | refine cg_cond_true rfl ?_ | refine cg_cond_false rfl ?_ | refine cg_skip ?_ | refine cg_block ?_ | refine eg_in_normal ?_ | refine cg_ret ?_ | refine eg_then_ret ?_ | refine eg_in_ret ?_ | refine cg_exit ?_ | refine eg_then_exit ?_ | refine eg_in_exit ?_ | refine eg_in_other rfl ?_)
    refine rs rfl rfl (loc_call_is rfl rfl rfl rfl (wants_ct (tMember.mono hle2 hm') tp)) ?_
    repeat (first | refine cg_seq ?_ | refine cg_region ?_ | refine rg_nil ?_ | refine eg_then ?_ | refine qsp ?_ | refine qsn ?_ | refine qsa ?_ | refine qss ?_ | refine qsi ?_ | refine qsz ?_ | refine qsl ?_ | refine qsg ?_ | refine qsf ?_ | refine qsd ?_ | refine qsE ?_ | refine qsX ?_ | refine qse ?_ | refine qsx ?_ | refine qso ?_ | refine cg_cond_true rfl ?_ | refine cg_cond_false rfl ?_ | refine cg_skip ?_ | refine cg_block ?_ | refine eg_in_normal ?_ | refine cg_ret ?_ | refine eg_then_ret ?_ | refine eg_in_ret ?_ | refine cg_exit ?_ | refine eg_then_exit ?_ | refine eg_in_exit ?_ | refine eg_in_other rfl ?_)
    refine eg_return rfl rfl ?_
    simp [h1]
  · have hc := containsTp_ct (hown.le hle2) tp
    rw [decide_eq_false h1] at hc
    refine rs rfl rfl (loc_call_is rfl rfl rfl rfl (hc)) ?_
    repeat (first | refine cg_seq ?_ | refine cg_region ?_ | refine rg_nil ?_ | refine eg_then ?_ | refine qsp ?_ | refine qsn ?_ | refine qsa ?_ | refine qss ?_ | refine qsi ?_ | refine qsz ?_ | refine qsl ?_ | refine qsg ?_ | refine qsf ?_ | refine qsd ?_ | refine qsE ?_ | refine qsX ?_ | refine qse ?_ | refine qsx ?_ | refine qso ?_ | refine cg_cond_true rfl ?_ | refine cg_cond_false rfl ?_ | refine cg_skip ?_ | refine cg_block ?_ | refine eg_in_normal ?_ | refine cg_ret ?_ | refine eg_then_ret ?_ | refine eg_in_ret ?_ | refine cg_exit ?_ | refine eg_then_exit ?_ | refine eg_in_exit ?_ | refine eg_in_other rfl ?_)
    refine eg_return rfl rfl ?_
    simp [h1]
end Go.Wm
namespace Go.Wm
variable [Dfr]
open Go.RowKit
section
variable {P : Program} {F : Fr} {n : Nat} {ops : Array Oper} {Q : Exit → Act → World → Prop} {rest : List Oper} {o : Oper} {e : Env} {k : PH}
/-- A row that has grown, whatever it is known of the worlds. -/
theorem row_step {w w' : World} {et sz m m' : Nat} {v v' : Value} {xs xs' : List Value} (hs : St F k w) (hrow : Row F.w0.heap.size k et sz v m xs) (h1 : Row F.w0.heap.size (wPH w') et sz v' m' xs')
    (hsame : w'.os = w.os ∧ w'.tape = w.tape ∧ w'.output = w.output ∧ w.heap.size ≤ w'.heap.size) (hold : ∀ i, i < w.heap.size → v.ownBlock ≠ some i → w'.heap[i]? = w.heap[i]?) (hown : ∀ g, v'.ownBlock = some g → v.ownBlock = some g ∨ w.heap.size ≤ g) :
    ∃ k', Row F.w0.heap.size k' et sz v' m' xs' ∧ Turn k k' v v' ∧ St F k' w' := by
  have hb : ∀ b o, k b = some o → b < w.heap.size := fun b o h => hs.sub.lt h
  have hvN : ∀ g, v.ownBlock = some g → F.w0.heap.size ≤ g := fun g hg => (hrow.block hg).1
  have hv'N : ∀ g, v'.ownBlock = some g → F.w0.heap.size ≤ g := fun g hg => (h1.block hg).1
  refine ⟨fun b => if v'.ownBlock = some b then w'.heap[b]? else if v.ownBlock = some b then none else k b, h1.at fun g hg => by simp [hg, wPH], fun h hle hap => ⟨fun b ob hbo => ?_, fun g hg => ?_⟩, ?_⟩
  · have n1 : v.ownBlock ≠ some b := fun e => by rw [hap b e] at hbo; cases hbo
    have n2 : v'.ownBlock ≠ some b := fun e => by
      rcases hown b e with e | e
      · exact n1 e
      · have := hb b ob (hle b ob hbo); omega
    simp only [n1, n2, if_false]
    exact hle b ob hbo
  · rcases hown g hg with e | e
    · exact hap g e
    · cases hh : h g with
      | none => rfl
      | some ob => have := hb g ob (hle g ob hh); omega
  · refine ⟨hsame.1.trans hs.os, hsame.2.1.trans hs.tape, hsame.2.2.1.trans hs.output, Nat.le_trans hs.size hsame.2.2.2, fun b hlt hmu => ?_, fun b ob hbo => ?_, fun b hlt hmu => ?_⟩
    · have n1 : v.ownBlock ≠ some b := fun e => by have := hvN b e; omega
      rw [hold b (Nat.lt_of_lt_of_le hlt hs.size) n1]
      exact hs.old b hlt hmu
    · by_cases e1 : v'.ownBlock = some b
      · simpa [e1] using hbo
      · by_cases e2 : v.ownBlock = some b
        · simp [e1, e2] at hbo
        · simp only [e1, e2, if_false] at hbo
          rw [hold b (hb b ob hbo) e2]
          exact hs.sub b ob hbo
    · have n1 : v.ownBlock ≠ some b := fun e => by have := hvN b e; omega
      have n2 : v'.ownBlock ≠ some b := fun e => by have := hv'N b e; omega
      simp only [n1, n2, if_false]
      exact hs.keep b hlt hmu
end
end Go.Wm
namespace Go.Wm
variable [Dfr]
open Go.RowKit
/-- Stage 0: the row is as it was; the world is no less than at the call's start. -/
def XG (N et sz : Nat) (v : Value) (m : Nat) (xs : List Value) : Nat → (Nat → Value) → PH → World → Prop := fun s _ k w => N ≤ w.heap.size ∧ (s = 0 → RowAt N et sz v v m xs k w)
/-- What a call that makes blocks has told, in a region that draws. -/
def Made (N : Nat) (k0 : PH) (φ : Nat → PH → Value → Prop) : PH → Value → Prop := fun k v => ∃ M, N ≤ M ∧ (∀ b, M ≤ b → k0 b = none) ∧ φ M k v
section
variable {P : Program} {F : Fr} {n : Nat} {ops : Array Oper} {Q : Exit → Act → World → Prop} {rest : List Oper} {o : Oper} {e : Env} {k : PH}
theorem cg_grow {id : Nat} {l : List Oper} [hm : Mixed P] (m0 j0 : Nat) (v : Value) {et sz m : Nat} {xs : List Value} (hrow : Row F.w0.heap.size k et sz v m xs) (hok : okAny n l = true) (htail : tailOk m0 l = true) (hml : Nat.ble m0 l.length = true) (hch : chainOk (masks l []) [j0] m0 = true) (hdet : det e = true)
    (h : WC P F n l.toArray (masks l []) [j0] (delV k v) (XG F.w0.heap.size et sz v m xs) (fun e' => ∀ k' vs, Le (delV k v) k' → (∀ t p, get e' t = some p → p.holds k' (vs t)) → RG P F n l.toArray Q (l.drop m0) (nameE vs e') k') 0 (l.take m0) e) :
    CG P F n Q (.region id l.toArray true) e k := by
  intro a w ha hs
  have hlen : (l.take m0).length = m0 := by
    have := Nat.le_of_ble_eq_true hml
    simp; omega
  have hsplit : l.take m0 ++ l.drop m0 = l := List.take_append_drop m0 l
  generalize hA : l.take m0 = A at *
  generalize hT : l.drop m0 = T at *
  subst hlen
  rw [← hsplit] at hok htail hch h ⊢
  have hs' : St F (delV k v) w := hs.weak (delV_le k v) fun b hb hmu => by
    have : v.ownBlock ≠ some b := fun e => by have := (hrow.block e).1; omega
    rw [delV_of this]
    exact hs.keep b hb hmu
  have hx0 : XG F.w0.heap.size et sz v m xs 0 (tmsOf a) (delV k v) w := ⟨hs.size, fun _ => ⟨hrow.le hs.sub, fun g hg => ⟨delV_own hg, by
    obtain ⟨_, ob, ho⟩ := hrow.block hg
    exact hs.sub.lt ho⟩⟩⟩
  refine region_chain (F := F) (k := delV k v) hm.eq hok htail hch (fun s tm k w k' w' hb hag hX => ⟨Nat.le_trans hX.1 hb.size, fun h0 => rowAt_stays k w k' w' hb hag (hX.2 h0)⟩) (fun s tm tm' k w _ hX => hX) (fun t q hg => by obtain ⟨v, rfl⟩ := det_get hdet hg; trivial) (ha.heap hdet) hs' hx0
    (WC.mono (fun e' hK k' a' w' hle hag hst hX => ?_) A 0 e h)
  refine hK k' (fun t => a'.tmps.getD t undef) hle (fun t p hp => hag.get t p hp) a' w' ⟨hag.size, hag.defers, fun t q hq => ?_⟩ hst
  rw [nameE_get] at hq
  cases hg : get e' t with
  | none => rw [hg] at hq; cases hq
  | some p =>
    rw [hg] at hq
    cases hq
    have := hag.get t p hg
    cases p with
    | is v => exact this
    | such φ => rfl
theorem LocI.elim {I : PH → World → Prop} {p : PV} (t : Nat) {φ : PH → Value → Prop} (hg : get e t = some (.such φ)) (ht : (o.looksAt ops).contains t = true) (hm : p.Mono) (h : ∀ v k1, Le k k1 → φ k1 v → LocI P n ops I o ((t, .is v) :: e) k1 p) : LocI P n ops I o e k p := by
  refine ⟨hm, fun a w k1 hk hs hi hsz hl => ?_⟩
  have hv := hl t (List.contains_iff_mem.1 ht) _ hg
  refine (h (a.tmps.getD t undef) k1 hk hv).2 a w k1 (Le.refl _) hs hi hsz fun u hu q hq => ?_
  by_cases htu : t = u
  · subst htu
    rw [get_cons_same] at hq
    cases hq
    rfl
  · rw [get_cons_other _ _ htu] at hq
    exact hl u hu q hq
theorem made_mono {N : Nat} {k0 : PH} {φ : Nat → PH → Value → Prop} (hm : ∀ M k k' v, Le k k' → φ M k v → φ M k' v) : (PV.such (Made N k0 φ)).Mono := fun k k' v hle ⟨M, h1, h2, h3⟩ => ⟨M, h1, h2, hm M k k' v hle h3⟩
/-- A call that makes blocks. -/
theorem loci_ctn {N : Nat} {kq : PH} {I : PH → World → Prop} (hI : ∀ k w, I k w → N ≤ w.heap.size) {x : Operand} {args : Array Operand} {ats : Array TypeId} {g : FuncId} {first cap : Array Value} {vs : List Value} [FnOk P g] {φ : Nat → PH → Value → Prop}
    (hg : wantedE ops e o = some true) (hop : o.op = .call { callee := .value x, args := args, argTypes := ats }) (hx : opv e x = some (.func (.func g) first cap)) (ha : opvs e args.toList = some vs) (hkq : Le kq k)
    (hm : ∀ M k k' v, Le k k' → φ M k v → φ M k' v) (h : CTN P g (first ++ vs.toArray ++ cap) k φ) : LocI P n ops I o e k (.such (Made N kq φ)) := by
  refine ⟨made_mono hm, fun a w k1 hk hs hi _ hl => ?_⟩
  rw [if_pos (wanted_of hl hg)]
  exact ex_enter (run_call hop hx ha (evs_of hl)) ((h w k1 hk hs).mono fun e w' ⟨v, k', h1, h2, h3, h4, h5⟩ => ⟨v, h1, k', h2, h3, h4, w.heap.size, hI _ _ hi, fun b hb => (hs.mono (hkq.trans hk)).none hb, h5⟩)
variable {ms fx : List Nat} {X : Nat → (Nat → Value) → PH → World → Prop} {K : Env → Prop} {i : Nat} {r : List Oper}
theorem wc_iv {d : Nat} {φ : PH → Value → Prop} (hd : o.dst = some d) (hl : LocI P n ops (fun k w => ∃ s tm, s ≤ fx.length ∧ winOk ms fx i s = true ∧ X s tm k w) o e k (.such φ)) (hn : fx.contains i = false) (h : WC P F n ops ms fx k X K (i + 1) r ((d, .such φ) :: e)) : WC P F n ops ms fx k X K i (o :: r) e :=
  .inl ⟨hn, _, hl, by rw [hd]; exact h⟩
/-- A region that draws its order, with calls that make blocks. -/
def XN (N : Nat) : Nat → (Nat → Value) → PH → World → Prop := fun _ _ _ w => N ≤ w.heap.size
theorem cg_calls {id : Nat} {l : List Oper} [hm : Mixed P] (m0 : Nat) (hok : okAny n l = true) (htail : tailOk m0 l = true) (hml : Nat.ble m0 l.length = true) (hdet : det e = true)
    (h : WC P F n l.toArray (masks l []) [] k (XN F.w0.heap.size) (fun e' => ∀ k' vs, Le k k' → (∀ t p, get e' t = some p → p.holds k' (vs t)) → RG P F n l.toArray Q (l.drop m0) (nameE vs e') k') 0 (l.take m0) e) :
    CG P F n Q (.region id l.toArray true) e k := by
  intro a w ha hs
  have hlen : (l.take m0).length = m0 := by
    have := Nat.le_of_ble_eq_true hml
    simp; omega
  have hsplit : l.take m0 ++ l.drop m0 = l := List.take_append_drop m0 l
  generalize hA : l.take m0 = A at *
  generalize hT : l.drop m0 = T at *
  subst hlen
  rw [← hsplit] at hok htail h ⊢
  refine region_chain (F := F) (k := k) (fx := []) hm.eq hok htail (by rfl) (fun s tm k w k' w' hb hag hX => Nat.le_trans hX hb.size) (fun s tm tm' k w _ hX => hX) (fun t q hg => by obtain ⟨v, rfl⟩ := det_get hdet hg; trivial) ha hs (X := XN F.w0.heap.size) hs.size
    (WC.mono (fun e' hK k' a' w' hle hag hst hX => ?_) A 0 e h)
  refine hK k' (fun t => a'.tmps.getD t undef) hle (fun t p hp => hag.get t p hp) a' w' ⟨hag.size, hag.defers, fun t q hq => ?_⟩ hst
  rw [nameE_get] at hq
  cases hg : get e' t with
  | none => rw [hg] at hq; cases hq
  | some p =>
    rw [hg] at hq
    cases hq
    have := hag.get t p hg
    cases p with
    | is v => exact this
    | such φ => rfl
end
end Go.Wm
namespace Go.Wm
variable [Dfr]
open Go.RowKit
def CTMN (P : Program) (f : FuncId) (args : Array Value) (kr : PH) (N : Nat) (M : Nat → Prop) (φ : PH → Value → Prop) : Prop :=
  ∀ w, Sub kr w → N ≤ w.heap.size → Calls P f args w (RetM kr w M φ)
theorem ctmn_of_body {P : Program} {f : FuncId} {fn : Func} {c : Code} {l : List Value} {k : PH} {N : Nat} {M : Nat → Prop} {φ : PH → Value → Prop} (hf : P.funcs[f]? = some fn) (hb : fn.body = some c) {n : Nat} (hn : fn.ntmps = n)
    (hl : l.length ≤ n) (h : ∀ F : Fr, F.k0 = k → F.mu = M → N ≤ F.w0.heap.size → (∀ b o, k b = some o → b < F.w0.heap.size) → CG P F n (bodyPost P fn (RetF F φ)) c (argEnv 0 l) k) (hD : Dfr.ds = [] := by rfl) : CTMN P f l.toArray k N M φ := by
  intro w hs hN
  have hs0 : St ⟨w, k, M⟩ k w := ⟨rfl, rfl, rfl, Nat.le_refl _, fun _ _ _ => rfl, hs, fun _ _ _ => rfl⟩
  subst hn
  refine Calls.mono (calls_of_wp (R := RetF ⟨w, k, M⟩ φ) hf hb (h ⟨w, k, M⟩ rfl rfl hN (fun b o hb => hs.lt hb) _ w (ag_args hl hD) hs0)) ?_
  rintro e w' ⟨v, kc, he, hst, hφ⟩
  exact ⟨v, kc, he, ⟨hst.os, hst.tape, hst.output, hst.size⟩, hst.old, hst.keep, hst.sub, hφ⟩
theorem CTMN.imp {P : Program} {f : FuncId} {args : Array Value} {k : PH} {N : Nat} {M : Nat → Prop} {φ ψ : PH → Value → Prop} (h : CTMN P f args k N M φ) (hi : ∀ k v, φ k v → ψ k v) : CTMN P f args k N M ψ := by
  intro w hs hN
  refine (h w hs hN).mono ?_
  rintro e w' ⟨v, k', h1, h2, h3, h4, h5, h6⟩
  exact ⟨v, k', h1, h2, h3, h4, h5, hi _ _ h6⟩
theorem CTMN.of {P : Program} {f : FuncId} {args : Array Value} {k : PH} {N : Nat} {M : Nat → Prop} {φ : PH → Value → Prop} (h : CTM P f args k M φ) : CTMN P f args k N M φ := fun w hs _ => h w hs
section
variable {P : Program} {F : Fr} {n : Nat} {ops : Array Oper} {Q : Exit → Act → World → Prop} {rest : List Oper} {o : Oper} {e : Env} {k : PH}
end
end Go.Wm
namespace Go.Wm
variable [Dfr]
section
variable {P : Program} {F : Fr} {n : Nat} {ops : Array Oper} {Q : Exit → Act → World → Prop} {rest : List Oper} {o : Oper} {e : Env} {k : PH}
variable {kt : TypeId} {α : Type} [DecidableEq α] {enc : α → Value}
end
end Go.Wm
namespace Go.Wm
variable [Dfr]
end Go.Wm
namespace Go.Wm
variable [Dfr]
/-- Three results, the first of which is a cell. -/
theorem eg_returnC3 {P : Program} {F : Fr} {n : Nat} {e : Env} {k : PH} {fn : Func} {φ : PH → Value → Prop} {t u u' : Nat} {ty : TypeId} (hr : fn.results = #[.cell t ty, .tmp u, .tmp u']) {d : TypeDesc} {b off sz bs : Nat} {z x x' : Value} {vs : List Value} [h : TyU P ty d] [hi : TyI P ty sz bs z] (hv : get e t = some (.is (.pointer (some ⟨b, off, none⟩)))) (hx : get e u = some (.is x)) (hx' : get e u' = some (.is x')) (hd : aggD d = true)
    (hc : Cells k b off vs) (hl : vs.length = sz) (hφ : φ k (.tuple #[.agg vs.toArray, x, x'])) (hD : Dfr.ds = [] := by rfl) : EG F n (bodyPost P fn (RetF F φ) .ret) e k := by
  intro a w ha hs
  have h1 : a.tmps.getD t undef = .pointer (some ⟨b, off, none⟩) := ha.get t _ hv
  have h3 : a.tmps.getD u undef = x := ha.get u _ hx
  have h5 : a.tmps.getD u' undef = x' := ha.get u' _ hx'
  have hl := run_loadAgg (P := P) (t := ty) (w := w) hd hl hc hs.sub
  refine bodyPost_ret ?_ (ha.defers.trans hD) ⟨_, k, rfl, hs, hφ⟩
  have h2 : a.tmps[t]?.getD undef = .pointer (some ⟨b, off, none⟩) := by rw [← h1]; simp
  have h4 : a.tmps[u]?.getD undef = x := by rw [← h3]; simp
  have h6 : a.tmps[u']?.getD undef = x' := by rw [← h5]; simp
  simp [results, hr, asAddr, h2, h4, h6, hl]
end Go.Wm
namespace Go.Wm
open Go.RowKit Go.Proofs
attribute [local irreducible] RG CG EG WA Loc Det Alc CT Exit.then Exit.inBlock Code.wp bodyPost
/-- v is a slice of the call's own (its block is none from before N) that reads as l. -/
def Own {α : Type} (T : Ty α) (N : Nat) (k : PH) (et : Nat) (v : Value) (l : List α) : Prop := ∃ css, Pieces T k css l ∧ Row N k et T.sz v l.length css.flatten
theorem Own.le {α : Type} {T : Ty α} {N : Nat} {k k' : PH} {et : Nat} {v : Value} {l : List α} (h : Own T N k et v l) (hl : Le k k') : Own T N k' et v l := by
  obtain ⟨css, h1, h2⟩ := h
  exact ⟨css, h1.le hl, h2.le hl⟩
theorem Own.N_le {α : Type} {T : Ty α} {N N' : Nat} {k : PH} {et : Nat} {v : Value} {l : List α} (h : Own T N k et v l) (hN : N' ≤ N) : Own T N' k et v l := by
  obtain ⟨css, h1, h2⟩ := h
  exact ⟨css, h1, h2.N_le hN⟩
theorem Own.sl {α : Type} {T : Ty α} {N : Nat} {k : PH} {et : Nat} {v : Value} {l : List α} (h : Own T N k et v l) : ∃ a c, v = .slice a l.length c ∧ Sl T k a c l := by
  obtain ⟨css, h1, h2⟩ := h
  exact h2.sls h1
theorem Own.block {α : Type} {T : Ty α} {N : Nat} {k : PH} {et : Nat} {v : Value} {l : List α} (h : Own T N k et v l) {g : Nat} (hg : v.ownBlock = some g) : N ≤ g ∧ ∃ ob, k g = some ob := by
  obtain ⟨css, h1, h2⟩ := h
  exact h2.block hg
theorem Own.apart {α : Type} {T : Ty α} {N : Nat} {k h : PH} {et : Nat} {v : Value} {l : List α} (H : Own T N k et v l) (hn : ∀ b, N ≤ b → h b = none) : Apart h v := by
  obtain ⟨css, h1, h2⟩ := H
  exact h2.apart hn
/-- A row stands where another block of another type is turned. -/
theorem Row.turnY {N : Nat} {k k' : PH} {b et et' sz : Nat} {v : Value} {m : Nat} {xs : List Value} {c : Array Value} {fr : Nat × Nat} (h : Row N k et sz v m xs) (ht : Turn1 k k' b) (hb : k b = some (.cells c et' fr)) (hne : et ≠ et') : Row N k' et sz v m xs := by
  obtain ⟨hl, (⟨rfl, rfl⟩ | ⟨g, cap, cur, rfl, hN, hk, h1, h2, h3, h4⟩)⟩ := h
  · exact ⟨hl, .inl ⟨rfl, rfl⟩⟩
  · have hgb : g ≠ b := fun hc => by rw [hc, hb] at hk; cases hk; exact hne rfl
    exact ⟨hl, .inr ⟨g, cap, cur, rfl, hN, turn1_get ht hgb hk, h1, h2, h3, h4⟩⟩
end Go.Wm

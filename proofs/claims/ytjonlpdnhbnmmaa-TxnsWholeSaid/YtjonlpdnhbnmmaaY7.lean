/-
  How the next batch of a producer ends its transaction, the law's own. Conditions: that what is handed in reads as data.
-/
import Derived.Test.YtjonlpdnhbnmmaaCoA
import Derived.Test.YtjonlpdnhbnmmaaY6
import Derived.Test.YtjonlpdnhbnmmaaQ2
set_option linter.all false
namespace Go.Wm
open Go.RowKit
/-- The low 16 bits. -/
def low16 (x : Int) : Nat := (BitVec.ofInt 64 x &&& BitVec.ofInt 64 65535).toNat
section
variable {P : Program} {o : Oper} {e : Env} {k : PH} {t t' : TypeId} {x y : Operand}
end
end Go.Wm
namespace Go.Wm
open Go.RowKit Go.Proofs
attribute [local irreducible] RG CG EG WA Loc Det Alc CT Exit.then Exit.inBlock Code.wp bodyPost
theorem short_one {s : List Batch} {n : Nat} (h : s.length * n ≤ reachBytes ∧ ∀ x ∈ s, x.small) : ∀ b ∈ s, Short b := fun b hb r hr => by
  have h1 := h.2 b hb
  unfold Batch.small at h1
  have h2 := h1.2.2.2.2.2.2.2.2.2.2 r hr
  exact ⟨h2.2.1, h2.2.2.1⟩
end Go.Wm
namespace Go.Wm
open Go.RowKit Go.Proofs
attribute [local irreducible] RG CG EG WA Loc Det Alc CT Exit.then Exit.inBlock Code.wp bodyPost
theorem of_few {bs : List Batch} {n : Nat} (hb : bs.length ≤ n) : (ofT bs).openV.length ≤ n ∧ (ofT bs).gone.length ≤ n ∧ (ofT bs).done.length ≤ n := by
  have h := of_size bs
  unfold sizeT at h
  omega
end Go.Wm
namespace Go.Wm
open Go.RowKit Go.Proofs
attribute [local irreducible] RG CG EG WA Loc Det Alc CT Exit.then Exit.inBlock Code.wp bodyPost
structure StepF (t : Tx) (b : Batch) (u : Tx) : Prop where
  o : u.openV.length ≤ t.openV.length + 1
  g : u.gone.length ≤ t.gone.length + 1
  d : u.done.length ≤ t.done.length + 1
  g' : t.gone.length ≤ u.gone.length
  d' : t.done.length ≤ u.done.length
  gt : u.gone.take t.gone.length = t.gone
  dt : u.done.take t.done.length = t.done
  sz : sizeT u = sizeT t ∨ (sizeT u = sizeT t + 1 ∧ b.ctl = 0 ∧ b.txn = true ∧ u.openV.length = t.openV.length + 1)
  none : b.txn = false → u = t
  ok : txP u = true
theorem stepF {t : Tx} {b : Batch} (h : putErr t b = 0) : StepF t b (putT t b) := by
  obtain ⟨h1, h2, h3⟩ := putErr_iff.1 h
  have f := chk_form h2
  have hok := put_ok h
  rcases put_len t b with ⟨e, _⟩ | ⟨c0, ct, th, e⟩ | ⟨c0, th, e⟩
  · rw [e] at hok ⊢
    exact ⟨by omega, by omega, by omega, by omega, by omega, List.take_length, List.take_length, .inl rfl, fun _ => rfl, hok⟩
  · rw [e] at hok ⊢
    have l1 := len_opens t b
    have l2 : (opensT t b).gone = t.gone := rfl
    have l3 : (opensT t b).done = t.done := rfl
    exact ⟨by omega, by rw [l2]; omega, by rw [l3]; omega, by rw [l2]; omega, by rw [l3]; omega, by rw [l2]; exact List.take_length, by rw [l3]; exact List.take_length, .inr ⟨by unfold sizeT; rw [l1, l2, l3]; omega, c0, ct, l1⟩, fun hn => (by rw [ct] at hn; cases hn), hok⟩
  · have l1 := len_less th
    have hno : b.txn = false → putT t b = t := fun hn => by rw [(f.ctl c0).2.2.2.1] at hn; cases hn
    rcases e with e | e
    · rw [e] at hok hno ⊢
      refine ⟨?_, ?_, ?_, ?_, ?_, ?_, ?_, .inl ?_, hno, hok⟩
      · show (lessT t b).length ≤ _; omega
      · show (t.gone ++ [goneOf t b]).length ≤ _; simp
      · show t.done.length ≤ _; omega
      · show _ ≤ (t.gone ++ [goneOf t b]).length; simp
      · show _ ≤ t.done.length; omega
      · show (t.gone ++ [goneOf t b]).take _ = _; simp
      · exact List.take_length
      · show (lessT t b).length + (t.gone ++ [goneOf t b]).length + t.done.length = _
        unfold sizeT; simp; omega
    · rw [e] at hok hno ⊢
      refine ⟨?_, ?_, ?_, ?_, ?_, ?_, ?_, .inl ?_, hno, hok⟩
      · show (lessT t b).length ≤ _; omega
      · show t.gone.length ≤ _; omega
      · show (t.done ++ [goneOf t b]).length ≤ _; simp
      · show _ ≤ t.gone.length; omega
      · show _ ≤ (t.done ++ [goneOf t b]).length; simp
      · exact List.take_length
      · show (t.done ++ [goneOf t b]).take _ = _; simp
      · show (lessT t b).length + t.gone.length + (t.done ++ [goneOf t b]).length = _
        unfold sizeT; simp; omega
end Go.Wm
namespace Go.Wm
open Go.RowKit Go.Proofs
attribute [local irreducible] RG CG EG WA Loc Det Alc CT Exit.then Exit.inBlock Code.wp bodyPost
theorem nextE_cons (b : Batch) (r : List Batch) (p : Int) : nextE (b :: r) p = if b.pid = p ∧ b.ctl ≠ 0 then b.ctl else nextE r p := by
  unfold nextE
  rw [List.find?_cons]
  by_cases h1 : b.pid = p <;> by_cases h2 : b.ctl = 0 <;> simp [h1, h2]
set_option maxHeartbeats 1000000 in
theorem next12_ct {k : PH} {a : Option Addr} {c : Nat} {bs : List Batch} {i : Nat} (hl : Sl tBatch k a c bs) (hi : i < bs.length) (hb : bs.length ≤ 1000000) :
    CT Try.prog 47 #[.slice a bs.length c, .int .i64 (i : Int)] k (fun _ v => v = .int .i64 (nextE (bs.drop (i + 1)) bs[i].pid)) := by
  refine ct_of_body (l := [_, _]) Try.func47 rfl Try.ntmps47 (by simp) (fun _ _ _ _ h => h) fun F hF0 hFm => ?_
  have b1 := hl.cap; have b2 := hl.max; unfold maxLen at b2
  obtain ⟨by', oy, cy, ea, ⟨sa, sc, ecy, _, _⟩, hcy⟩ := hl.el i bs[i] (List.getElem?_eq_getElem hi)
  subst ea
  rw [ecy] at hcy
  obtain ⟨y0, y1, y2, y3, y4, _⟩ := Batch.parts hcy
  repeat (first | refine cg_seq ?_ | refine cg_region ?_ | refine rg_nil ?_ | refine eg_then ?_ | refine qsp ?_ | refine qsn ?_ | refine qsa ?_ | refine qss ?_ | refine qsi ?_ | refine qsz ?_ | refine qsl ?_ | refine qsg ?_ | refine qsf ?_ | refine qsd ?_ | refine qsE ?_ | refine qsX ?_ | refine qse ?_ | refine qsx ?_ | refine qso ?_ | refine cg_cond_true rfl ?_ | refine cg_cond_false rfl ?_ | refine cg_skip ?_ | refine cg_block ?_ | refine eg_in_normal ?_ | refine cg_ret ?_ | refine eg_then_ret ?_ | refine eg_in_ret ?_ | refine cg_exit ?_ | refine eg_then_exit ?_ | refine eg_in_exit ?_ | refine eg_in_other rfl ?_)
  refine cg_loop (fun (j : Nat) e k' => k' = k ∧ j ≤ bs.length ∧ nextE (bs.drop (i + 1)) bs[i].pid = nextE (bs.drop j) bs[i].pid ∧ e = [(0, .is (.slice (some ⟨by', oy, none⟩) bs.length c)), (1, .is (.int .i64 (i : Int))), (5, .is (.int .i64 (j : Int)))])
    (fun j => bs.length - j) (i + 1) ⟨rfl, hi, rfl, rfl⟩ ⟨rfl, rfl, rfl, trivial⟩ ?_
  rintro j e k1 ⟨rfl, hj, hinv, rfl⟩
  repeat (first | refine cg_seq ?_ | refine cg_region ?_ | refine rg_nil ?_ | refine eg_then ?_ | refine qsp ?_ | refine qsn ?_ | refine qsa ?_ | refine qss ?_ | refine qsi ?_ | refine qsz ?_ | refine qsl ?_ | refine qsg ?_ | refine qsf ?_ | refine qsd ?_ | refine qsE ?_ | refine qsX ?_ | refine qse ?_ | refine qsx ?_ | refine qso ?_ | refine cg_cond_true rfl ?_ | refine cg_cond_false rfl ?_ | refine cg_skip ?_ | refine cg_block ?_ | refine eg_in_normal ?_ | refine cg_ret ?_ | refine eg_then_ret ?_ | refine eg_in_ret ?_ | refine cg_exit ?_ | refine eg_then_exit ?_ | refine eg_in_exit ?_ | refine eg_in_other rfl ?_)
  refine cg_cond rfl (fun h => ?_) (fun h => ?_)
  · have hlt : j < bs.length := by simpa using h
    obtain ⟨bx, ox, cx, ex, ⟨ra, rc, ecx, _, _⟩, hcx⟩ := hl.el j bs[j] (List.getElem?_eq_getElem hlt)
    cases ex
    rw [ecx] at hcx
    obtain ⟨p0, p1, p2, p3, p4, p5, p6, p7, p8, p9⟩ := Batch.parts hcx
    have hc := nextE_cons bs[j] (bs.drop (j + 1)) bs[i].pid
    rw [← List.drop_eq_getElem_cons hlt, ← hinv] at hc
    repeat (first | refine cg_seq ?_ | refine cg_region ?_ | refine rg_nil ?_ | refine eg_then ?_ | refine qsp ?_ | refine qsn ?_ | refine qsa ?_ | refine qss ?_ | refine qsi ?_ | refine qsz ?_ | refine qsl ?_ | refine qsg ?_ | refine qsf ?_ | refine qsd ?_ | refine qsE ?_ | refine qsX ?_ | refine qse ?_ | refine qsx ?_ | refine qso ?_ | refine cg_cond_true rfl ?_ | refine cg_cond_false rfl ?_ | refine cg_skip ?_ | refine cg_block ?_ | refine eg_in_normal ?_ | refine cg_ret ?_ | refine eg_then_ret ?_ | refine eg_in_ret ?_ | refine cg_exit ?_ | refine eg_then_exit ?_ | refine eg_in_exit ?_ | refine eg_in_other rfl ?_)
    refine cg_any (by kernel_rfl) rfl ?_
    repeat (first | refine qwp ?_ | refine qwn ?_ | refine qwa ?_ | refine qws ?_ | refine qwi ?_ | refine qwz ?_ | refine qwl ?_ | refine qwg ?_ | refine qwf ?_ | refine qwd ?_ | refine qwE ?_ | refine qwX ?_ | refine qwe ?_ | refine qwx ?_ | refine qwo ?_ | (refine wn rfl ?_; refine eg_then ?_))
    cases q1 : (bs[j].pid == bs[i].pid)
    · simp at q1
      repeat (first | refine qwp ?_ | refine qwn ?_ | refine qwa ?_ | refine qws ?_ | refine qwi ?_ | refine qwz ?_ | refine qwl ?_ | refine qwg ?_ | refine qwf ?_ | refine qwd ?_ | refine qwE ?_ | refine qwX ?_ | refine qwe ?_ | refine qwx ?_ | refine qwo ?_ | (refine wn rfl ?_; refine eg_then ?_))
      repeat (first | refine cg_seq ?_ | refine cg_region ?_ | refine rg_nil ?_ | refine eg_then ?_ | refine qsp ?_ | refine qsn ?_ | refine qsa ?_ | refine qss ?_ | refine qsi ?_ | refine qsz ?_ | refine qsl ?_ | refine qsg ?_ | refine qsf ?_ | refine qsd ?_ | refine qsE ?_ | refine qsX ?_ | refine qse ?_ | refine qsx ?_ | refine qso ?_ | refine cg_cond_true rfl ?_ | refine cg_cond_false rfl ?_ | refine cg_skip ?_ | refine cg_block ?_ | refine eg_in_normal ?_ | refine cg_ret ?_ | refine eg_then_ret ?_ | refine eg_in_ret ?_ | refine cg_exit ?_ | refine eg_then_exit ?_ | refine eg_in_exit ?_ | refine eg_in_other rfl ?_)
      exact eg_again (j + 1) _ ⟨rfl, hlt, by rw [hc, if_neg (by simp [q1])], rfl⟩ (by omega) ⟨rfl, rfl, rfl, trivial⟩
    simp at q1
    repeat (first | refine qwp ?_ | refine qwn ?_ | refine qwa ?_ | refine qws ?_ | refine qwi ?_ | refine qwz ?_ | refine qwl ?_ | refine qwg ?_ | refine qwf ?_ | refine qwd ?_ | refine qwE ?_ | refine qwX ?_ | refine qwe ?_ | refine qwx ?_ | refine qwo ?_ | (refine wn rfl ?_; refine eg_then ?_))
    cases q2 : (bs[j].ctl != 0)
    · simp at q2
      repeat (first | refine qwp ?_ | refine qwn ?_ | refine qwa ?_ | refine qws ?_ | refine qwi ?_ | refine qwz ?_ | refine qwl ?_ | refine qwg ?_ | refine qwf ?_ | refine qwd ?_ | refine qwE ?_ | refine qwX ?_ | refine qwe ?_ | refine qwx ?_ | refine qwo ?_ | (refine wn rfl ?_; refine eg_then ?_))
      repeat (first | refine cg_seq ?_ | refine cg_region ?_ | refine rg_nil ?_ | refine eg_then ?_ | refine qsp ?_ | refine qsn ?_ | refine qsa ?_ | refine qss ?_ | refine qsi ?_ | refine qsz ?_ | refine qsl ?_ | refine qsg ?_ | refine qsf ?_ | refine qsd ?_ | refine qsE ?_ | refine qsX ?_ | refine qse ?_ | refine qsx ?_ | refine qso ?_ | refine cg_cond_true rfl ?_ | refine cg_cond_false rfl ?_ | refine cg_skip ?_ | refine cg_block ?_ | refine eg_in_normal ?_ | refine cg_ret ?_ | refine eg_then_ret ?_ | refine eg_in_ret ?_ | refine cg_exit ?_ | refine eg_then_exit ?_ | refine eg_in_exit ?_ | refine eg_in_other rfl ?_)
      exact eg_again (j + 1) _ ⟨rfl, hlt, by rw [hc, if_neg (by simp [q2])], rfl⟩ (by omega) ⟨rfl, rfl, rfl, trivial⟩
    simp at q2
    repeat (first | refine qwp ?_ | refine qwn ?_ | refine qwa ?_ | refine qws ?_ | refine qwi ?_ | refine qwz ?_ | refine qwl ?_ | refine qwg ?_ | refine qwf ?_ | refine qwd ?_ | refine qwE ?_ | refine qwX ?_ | refine qwe ?_ | refine qwx ?_ | refine qwo ?_ | (refine wn rfl ?_; refine eg_then ?_))
    repeat (first | refine cg_seq ?_ | refine cg_region ?_ | refine rg_nil ?_ | refine eg_then ?_ | refine qsp ?_ | refine qsn ?_ | refine qsa ?_ | refine qss ?_ | refine qsi ?_ | refine qsz ?_ | refine qsl ?_ | refine qsg ?_ | refine qsf ?_ | refine qsd ?_ | refine qsE ?_ | refine qsX ?_ | refine qse ?_ | refine qsx ?_ | refine qso ?_ | refine cg_cond_true rfl ?_ | refine cg_cond_false rfl ?_ | refine cg_skip ?_ | refine cg_block ?_ | refine eg_in_normal ?_ | refine cg_ret ?_ | refine eg_then_ret ?_ | refine eg_in_ret ?_ | refine cg_exit ?_ | refine eg_then_exit ?_ | refine eg_in_exit ?_ | refine eg_in_other rfl ?_)
    refine eg_return rfl rfl ?_
    rw [hc, if_pos ⟨q1, q2⟩]
  · have hjl : j = bs.length := by simp at h; omega
    repeat (first | refine cg_seq ?_ | refine cg_region ?_ | refine rg_nil ?_ | refine eg_then ?_ | refine qsp ?_ | refine qsn ?_ | refine qsa ?_ | refine qss ?_ | refine qsi ?_ | refine qsz ?_ | refine qsl ?_ | refine qsg ?_ | refine qsf ?_ | refine qsd ?_ | refine qsE ?_ | refine qsX ?_ | refine qse ?_ | refine qsx ?_ | refine qso ?_ | refine cg_cond_true rfl ?_ | refine cg_cond_false rfl ?_ | refine cg_skip ?_ | refine cg_block ?_ | refine eg_in_normal ?_ | refine cg_ret ?_ | refine eg_then_ret ?_ | refine eg_in_ret ?_ | refine cg_exit ?_ | refine eg_then_exit ?_ | refine eg_in_exit ?_ | refine eg_in_other rfl ?_)
    refine eg_return rfl rfl ?_
    rw [hinv, hjl, List.drop_length]; rfl
end Go.Wm

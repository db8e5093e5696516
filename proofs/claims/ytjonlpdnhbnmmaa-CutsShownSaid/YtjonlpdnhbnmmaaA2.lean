/-
  How partitions are ordered, and what is a name, the program's. Conditions: that what is handed in reads as data.
-/
import Derived.Test.YtjonlpdnhbnmmaaR8
import Derived.Lib.Bytealg
set_option linter.all false
namespace Go.Wm
open Go.RowKit Go.Proofs
section
variable {P : Program} {o : Oper} {e : Env} {k : PH}
theorem d_cmpstr {x y z : Operand} {f : FuncId} {fn : Func} {ats : Array TypeId} {a b : ByteArray} (hop : o.op = .call { callee := .value x, args := #[y, z], argTypes := ats }) (hx : opv e x = some (.func (.func f) #[] #[])) (hy : opv e y = some (.string a)) (hz : opv e z = some (.string b))
    (hf : P.funcs[f]? = some fn) (hname : (fn.name == "runtime.NumGoroutine") = false) (hb : fn.body.isNone = true) (hn : Extern.findNext fn = none) (he : Extern.find fn = some Extern.BytealgCompare.compare) : Det P e k o (.int .i64 (Lib.compareBytes a.data.toList b.data.toList)) := by
  intro ev w hev _
  rw [hop] at hev
  have e1 := hev x (by simp [Op.operands, Call.operands]) _ hx
  have e2 := hev y (by simp [Op.operands, Call.operands]) _ hy
  have e3 := hev z (by simp [Op.operands, Call.operands]) _ hz
  have h := run_callFunc_extern hf hname hb hn he #[.string a, .string b] w
  rw [Lib.run_compareString] at h
  simp only [Result.andThen] at h
  simp [execOp, hop, resolve, Deferred.ofValue, invoke, e1, e2, e3, h]
end

attribute [local irreducible] RG CG EG WA Loc Det Alc CT Exit.then Exit.inBlock Code.wp bodyPost

theorem sl_flat {α : Type} {T : Ty α} {f : α → List Value} {k : PH} {b : Nat} {c : Array Value} {et : TypeId} {fr : Nat × Nat} {xs : List α} (h : k b = some (.cells c et fr)) (hc : c.toList = xs.flatMap f) (hr : ∀ x ∈ xs, T.rep k (f x) x) (hm : xs.length ≤ maxLen) : Sl T k (some ⟨b, 0, none⟩) xs.length xs :=
  sl_rows (css := xs.map f) h (by rw [hc]; simp [List.flatMap]) (by simp) (fun i cs x h1 h2 => by
    rw [List.getElem?_map, h2] at h1
    cases h1
    exact hr x (List.mem_of_getElem? h2)) hm
theorem sl_none {α : Type} (T : Ty α) (k : PH) : Sl T k none 0 [] := ⟨by simp, by simp [maxLen], fun _ => rfl, by simp, by simp⟩

def cmpInt (a b : Int) : Int := if a < b then -1 else if a > b then 1 else 0
def cmpStr (a b : ByteArray) : Int := Lib.compareBytes a.data.toList b.data.toList
def orL (l : List Int) : Int := (l.find? fun n => n != 0).getD 0
def ordTp (a b : Tp) : Int := orL [cmpStr a.topic b.topic, cmpInt a.part b.part, cmpInt a.home b.home]

theorem cmpBytes_cases : ∀ (a b : List UInt8), (Lib.compareBytes a b = -1 ∧ a < b) ∨ (Lib.compareBytes a b = 0 ∧ a = b) ∨ (Lib.compareBytes a b = 1 ∧ ¬ a < b ∧ a ≠ b)
  | [], [] => .inr (.inl ⟨rfl, rfl⟩)
  | [], b :: ys => .inl ⟨rfl, by simp⟩
  | a :: xs, [] => .inr (.inr ⟨rfl, by simp, by simp⟩)
  | a :: xs, b :: ys => by
    unfold Lib.compareBytes
    by_cases h : a < b
    · rw [if_pos h]
      exact .inl ⟨rfl, by rw [List.cons_lt_cons_iff]; exact .inl h⟩
    · rw [if_neg h]
      by_cases h2 : b < a
      · rw [if_pos h2]
        have hne : a ≠ b := by rintro rfl; exact h h2
        refine .inr (.inr ⟨rfl, ?_, by simp [hne]⟩)
        rw [List.cons_lt_cons_iff]
        rintro (h3 | ⟨h3, _⟩)
        · exact h h3
        · exact hne h3
      · rw [if_neg h2]
        have he : a = b := by
          apply UInt8.le_antisymm
          · exact UInt8.not_lt.1 h2
          · exact UInt8.not_lt.1 h
        subst he
        rcases cmpBytes_cases xs ys with ⟨h3, h4⟩ | ⟨h3, h4⟩ | ⟨h3, h4, h5⟩
        · exact .inl ⟨h3, by rw [List.cons_lt_cons_iff]; exact .inr ⟨rfl, h4⟩⟩
        · exact .inr (.inl ⟨h3, by rw [h4]⟩)
        · refine .inr (.inr ⟨h3, ?_, by simp [h5]⟩)
          rw [List.cons_lt_cons_iff]
          rintro (h6 | ⟨_, h6⟩)
          · exact h h6
          · exact h4 h6
theorem bytes_ext {a b : ByteArray} (h : a.data.toList = b.data.toList) : a = b := ByteArray.ext (Array.toList_inj.1 h)
theorem orL3 (x y z : Int) : orL [x, y, z] = if x ≠ 0 then x else if y ≠ 0 then y else z := by
  by_cases hx : x = 0 <;> by_cases hy : y = 0 <;> by_cases hz : z = 0 <;> simp [orL, hx, hy, hz]
theorem cmpInt_cases (a b : Int) : (cmpInt a b = -1 ∧ a < b) ∨ (cmpInt a b = 0 ∧ a = b) ∨ (cmpInt a b = 1 ∧ b < a) := by
  unfold cmpInt
  by_cases h : a < b
  · exact .inl ⟨by simp [h], h⟩
  · by_cases h2 : b < a
    · exact .inr (.inr ⟨by simp [h, h2], h2⟩)
    · exact .inr (.inl ⟨by simp [h, h2], by omega⟩)
theorem ordTp_less (a b : Tp) : decide (ordTp a b ≥ 0) = !tpLess a b := by
  unfold ordTp tpLess strLt cmpStr
  rw [orL3]
  rcases cmpBytes_cases a.topic.data.toList b.topic.data.toList with ⟨h3, h4⟩ | ⟨h3, h4⟩ | ⟨h3, h4, h5⟩
  · have hne : a.topic ≠ b.topic := fun h => by
      rw [h] at h4
      exact absurd h4 (List.lt_irrefl _)
    rw [h3, if_pos hne]
    simp [h4]
  · have he : a.topic = b.topic := bytes_ext h4
    rw [h3, if_neg (by simp [he])]
    rcases cmpInt_cases a.part b.part with ⟨h6, h7⟩ | ⟨h6, h7⟩ | ⟨h6, h7⟩
    · rw [h6, if_pos (by omega)]
      have : a.part ≠ b.part := by omega
      simp [h7, he, this]
    · rw [h6, if_neg (by simp [h7])]
      rcases cmpInt_cases a.home b.home with ⟨h8, h9⟩ | ⟨h8, h9⟩ | ⟨h8, h9⟩
      · rw [h8]; simp [h9, he, h7]
      · rw [h8]; simp [h9, he, h7]
      · rw [h8]; simp [he, h7]; omega
    · rw [h6, if_pos (by omega)]
      have : a.part ≠ b.part := by omega
      simp [he, this]; omega
  · have hne : a.topic ≠ b.topic := fun h => h5 (by rw [h])
    rw [h3, if_pos hne]
    simpa using h4

theorem cmpString_ct {k : PH} (a b : ByteArray) : CT Try.prog 144 #[.string a, .string b] k (fun _ v => v = .int .i64 (cmpStr a b)) := by
  refine ct_of_body (l := [_, _]) Try.func144 rfl Try.ntmps144 (by simp) (fun _ _ _ _ h => h) fun F hF0 hFm => ?_
  repeat (first | refine cg_seq ?_ | refine cg_region ?_ | refine rg_nil ?_ | refine eg_then ?_ | refine qsp ?_ | refine qsn ?_ | refine qsa ?_ | refine qss ?_ | refine qsi ?_ | refine qsz ?_ | refine qsl ?_ | refine qsg ?_ | refine qsf ?_ | refine qsd ?_ | refine qsE ?_ | refine qsX ?_ | refine qse ?_ | refine qsx ?_ | refine qso ?_ | refine cg_cond_true rfl ?_ | refine cg_cond_false rfl ?_ | refine cg_skip ?_ | refine cg_block ?_ | refine eg_in_normal ?_ | refine cg_ret ?_ | refine eg_then_ret ?_ | refine eg_in_ret ?_ | refine cg_exit ?_ | refine eg_then_exit ?_ | refine eg_in_exit ?_ | refine eg_in_other rfl ?_)
  refine rs rfl rfl (loc_det rfl (d_cmpstr rfl rfl rfl rfl Try.func157 (by kernel_rfl) (by kernel_rfl) (by kernel_rfl) (by kernel_rfl))) ?_
  repeat (first | refine cg_seq ?_ | refine cg_region ?_ | refine rg_nil ?_ | refine eg_then ?_ | refine qsp ?_ | refine qsn ?_ | refine qsa ?_ | refine qss ?_ | refine qsi ?_ | refine qsz ?_ | refine qsl ?_ | refine qsg ?_ | refine qsf ?_ | refine qsd ?_ | refine qsE ?_ | refine qsX ?_ | refine qse ?_ | refine qsx ?_ | refine qso ?_ | refine cg_cond_true rfl ?_ | refine cg_cond_false rfl ?_ | refine cg_skip ?_ | refine cg_block ?_ | refine eg_in_normal ?_ | refine cg_ret ?_ | refine eg_then_ret ?_ | refine eg_in_ret ?_ | refine cg_exit ?_ | refine eg_then_exit ?_ | refine eg_in_exit ?_ | refine eg_in_other rfl ?_)
  exact eg_return rfl rfl rfl
theorem strCompare_ct {k : PH} (a b : ByteArray) : CT Try.prog 127 #[.string a, .string b] k (fun _ v => v = .int .i64 (cmpStr a b)) := by
  refine ct_of_body (l := [_, _]) Try.func127 rfl Try.ntmps127 (by simp) (fun _ _ _ _ h => h) fun F hF0 hFm => ?_
  repeat (first | refine cg_seq ?_ | refine cg_region ?_ | refine rg_nil ?_ | refine eg_then ?_ | refine qsp ?_ | refine qsn ?_ | refine qsa ?_ | refine qss ?_ | refine qsi ?_ | refine qsz ?_ | refine qsl ?_ | refine qsg ?_ | refine qsf ?_ | refine qsd ?_ | refine qsE ?_ | refine qsX ?_ | refine qse ?_ | refine qsx ?_ | refine qso ?_ | refine cg_cond_true rfl ?_ | refine cg_cond_false rfl ?_ | refine cg_skip ?_ | refine cg_block ?_ | refine eg_in_normal ?_ | refine cg_ret ?_ | refine eg_then_ret ?_ | refine eg_in_ret ?_ | refine cg_exit ?_ | refine eg_then_exit ?_ | refine eg_in_exit ?_ | refine eg_in_other rfl ?_)
  refine rs rfl rfl (loc_call_is rfl rfl rfl rfl (cmpString_ct a b)) ?_
  repeat (first | refine cg_seq ?_ | refine cg_region ?_ | refine rg_nil ?_ | refine eg_then ?_ | refine qsp ?_ | refine qsn ?_ | refine qsa ?_ | refine qss ?_ | refine qsi ?_ | refine qsz ?_ | refine qsl ?_ | refine qsg ?_ | refine qsf ?_ | refine qsd ?_ | refine qsE ?_ | refine qsX ?_ | refine qse ?_ | refine qsx ?_ | refine qso ?_ | refine cg_cond_true rfl ?_ | refine cg_cond_false rfl ?_ | refine cg_skip ?_ | refine cg_block ?_ | refine eg_in_normal ?_ | refine cg_ret ?_ | refine eg_then_ret ?_ | refine eg_in_ret ?_ | refine cg_exit ?_ | refine eg_then_exit ?_ | refine eg_in_exit ?_ | refine eg_in_other rfl ?_)
  exact eg_return rfl rfl rfl
theorem isNaN_ct {k : PH} (a : Int) : CT Try.prog 129 #[.int .i64 a] k (fun _ v => v = .bool false) := by
  refine ct_of_body (l := [_]) Try.func129 rfl Try.ntmps129 (by simp) (fun _ _ _ _ h => h) fun F hF0 hFm => ?_
  repeat (first | refine cg_seq ?_ | refine cg_region ?_ | refine rg_nil ?_ | refine eg_then ?_ | refine qsp ?_ | refine qsn ?_ | refine qsa ?_ | refine qss ?_ | refine qsi ?_ | refine qsz ?_ | refine qsl ?_ | refine qsg ?_ | refine qsf ?_ | refine qsd ?_ | refine qsE ?_ | refine qsX ?_ | refine qse ?_ | refine qsx ?_ | refine qso ?_ | refine cg_cond_true rfl ?_ | refine cg_cond_false rfl ?_ | refine cg_skip ?_ | refine cg_block ?_ | refine eg_in_normal ?_ | refine cg_ret ?_ | refine eg_then_ret ?_ | refine eg_in_ret ?_ | refine cg_exit ?_ | refine eg_then_exit ?_ | refine eg_in_exit ?_ | refine eg_in_other rfl ?_)
  refine eg_return rfl rfl ?_
  simp
set_option maxHeartbeats 400000 in
theorem cmpInt_ct {k : PH} (a b : Int) : CT Try.prog 111 #[.int .i64 a, .int .i64 b] k (fun _ v => v = .int .i64 (cmpInt a b)) := by
  refine ct_of_body (l := [_, _]) Try.func111 rfl Try.ntmps111 (by simp) (fun _ _ _ _ h => h) fun F hF0 hFm => ?_
  repeat (first | refine cg_seq ?_ | refine cg_region ?_ | refine rg_nil ?_ | refine eg_then ?_ | refine qsp ?_ | refine qsn ?_ | refine qsa ?_ | refine qss ?_ | refine qsi ?_ | refine qsz ?_ | refine qsl ?_ | refine qsg ?_ | refine qsf ?_ | refine qsd ?_ | refine qsE ?_ | refine qsX ?_ | refine qse ?_ | refine qsx ?_ | refine qso ?_ | refine cg_cond_true rfl ?_ | refine cg_cond_false rfl ?_ | refine cg_skip ?_ | refine cg_block ?_ | refine eg_in_normal ?_ | refine cg_ret ?_ | refine eg_then_ret ?_ | refine eg_in_ret ?_ | refine cg_exit ?_ | refine eg_then_exit ?_ | refine eg_in_exit ?_ | refine eg_in_other rfl ?_)
  refine rs rfl rfl (loc_call_is rfl rfl rfl rfl (isNaN_ct a)) ?_
  repeat (first | refine cg_seq ?_ | refine cg_region ?_ | refine rg_nil ?_ | refine eg_then ?_ | refine qsp ?_ | refine qsn ?_ | refine qsa ?_ | refine qss ?_ | refine qsi ?_ | refine qsz ?_ | refine qsl ?_ | refine qsg ?_ | refine qsf ?_ | refine qsd ?_ | refine qsE ?_ | refine qsX ?_ | refine qse ?_ | refine qsx ?_ | refine qso ?_ | refine cg_cond_true rfl ?_ | refine cg_cond_false rfl ?_ | refine cg_skip ?_ | refine cg_block ?_ | refine eg_in_normal ?_ | refine cg_ret ?_ | refine eg_then_ret ?_ | refine eg_in_ret ?_ | refine cg_exit ?_ | refine eg_then_exit ?_ | refine eg_in_exit ?_ | refine eg_in_other rfl ?_)
  refine rs rfl rfl (loc_call_is rfl rfl rfl rfl (isNaN_ct b)) ?_
  repeat (first | refine cg_seq ?_ | refine cg_region ?_ | refine rg_nil ?_ | refine eg_then ?_ | refine qsp ?_ | refine qsn ?_ | refine qsa ?_ | refine qss ?_ | refine qsi ?_ | refine qsz ?_ | refine qsl ?_ | refine qsg ?_ | refine qsf ?_ | refine qsd ?_ | refine qsE ?_ | refine qsX ?_ | refine qse ?_ | refine qsx ?_ | refine qso ?_ | refine cg_cond_true rfl ?_ | refine cg_cond_false rfl ?_ | refine cg_skip ?_ | refine cg_block ?_ | refine eg_in_normal ?_ | refine cg_ret ?_ | refine eg_then_ret ?_ | refine eg_in_ret ?_ | refine cg_exit ?_ | refine eg_then_exit ?_ | refine eg_in_exit ?_ | refine eg_in_other rfl ?_)
  refine cg_cond rfl (fun h => ?_) (fun h => ?_)
  · repeat (first | refine cg_seq ?_ | refine cg_region ?_ | refine rg_nil ?_ | refine eg_then ?_ | refine qsp ?_ | refine qsn ?_ | refine qsa ?_ | refine qss ?_ | refine qsi ?_ | refine qsz ?_ | refine qsl ?_ | refine qsg ?_ | refine qsf ?_ | refine qsd ?_ | refine qsE ?_ | refine qsX ?_ | refine qse ?_ | refine qsx ?_ | refine qso ?_ | refine cg_cond_true rfl ?_ | refine cg_cond_false rfl ?_ | refine cg_skip ?_ | refine cg_block ?_ | refine eg_in_normal ?_ | refine cg_ret ?_ | refine eg_then_ret ?_ | refine eg_in_ret ?_ | refine cg_exit ?_ | refine eg_then_exit ?_ | refine eg_in_exit ?_ | refine eg_in_other rfl ?_)
    refine eg_return rfl rfl ?_
    have h : a < b := by simpa using h
    simp [cmpInt, h]
  · repeat (first | refine cg_seq ?_ | refine cg_region ?_ | refine rg_nil ?_ | refine eg_then ?_ | refine qsp ?_ | refine qsn ?_ | refine qsa ?_ | refine qss ?_ | refine qsi ?_ | refine qsz ?_ | refine qsl ?_ | refine qsg ?_ | refine qsf ?_ | refine qsd ?_ | refine qsE ?_ | refine qsX ?_ | refine qse ?_ | refine qsx ?_ | refine qso ?_ | refine cg_cond_true rfl ?_ | refine cg_cond_false rfl ?_ | refine cg_skip ?_ | refine cg_block ?_ | refine eg_in_normal ?_ | refine cg_ret ?_ | refine eg_then_ret ?_ | refine eg_in_ret ?_ | refine cg_exit ?_ | refine eg_then_exit ?_ | refine eg_in_exit ?_ | refine eg_in_other rfl ?_)
    have h : ¬ a < b := by simp at h; omega
    refine cg_cond rfl (fun h2 => ?_) (fun h2 => ?_)
    · repeat (first | refine cg_seq ?_ | refine cg_region ?_ | refine rg_nil ?_ | refine eg_then ?_ | refine qsp ?_ | refine qsn ?_ | refine qsa ?_ | refine qss ?_ | refine qsi ?_ | refine qsz ?_ | refine qsl ?_ | refine qsg ?_ | refine qsf ?_ | refine qsd ?_ | refine qsE ?_ | refine qsX ?_ | refine qse ?_ | refine qsx ?_ | refine qso ?_ | refine cg_cond_true rfl ?_ | refine cg_cond_false rfl ?_ | refine cg_skip ?_ | refine cg_block ?_ | refine eg_in_normal ?_ | refine cg_ret ?_ | refine eg_then_ret ?_ | refine eg_in_ret ?_ | refine cg_exit ?_ | refine eg_then_exit ?_ | refine eg_in_exit ?_ | refine eg_in_other rfl ?_)
      refine eg_return rfl rfl ?_
      have h2 : b < a := by simp at h2; omega
      simp [cmpInt, h, h2]
    · repeat (first | refine cg_seq ?_ | refine cg_region ?_ | refine rg_nil ?_ | refine eg_then ?_ | refine qsp ?_ | refine qsn ?_ | refine qsa ?_ | refine qss ?_ | refine qsi ?_ | refine qsz ?_ | refine qsl ?_ | refine qsg ?_ | refine qsf ?_ | refine qsd ?_ | refine qsE ?_ | refine qsX ?_ | refine qse ?_ | refine qsx ?_ | refine qso ?_ | refine cg_cond_true rfl ?_ | refine cg_cond_false rfl ?_ | refine cg_skip ?_ | refine cg_block ?_ | refine eg_in_normal ?_ | refine cg_ret ?_ | refine eg_then_ret ?_ | refine eg_in_ret ?_ | refine cg_exit ?_ | refine eg_then_exit ?_ | refine eg_in_exit ?_ | refine eg_in_other rfl ?_)
      refine eg_return rfl rfl ?_
      have h2 : ¬ b < a := by simp at h2; omega
      simp [cmpInt, h, h2]
set_option maxHeartbeats 400000 in
theorem or_ct {k : PH} {a : Option Addr} {c : Nat} {l : List Int} (hl : Sl tInt k a c l) : CT Try.prog 126 #[.slice a l.length c] k (fun _ v => v = .int .i64 (orL l)) := by
  refine ct_of_body (l := [_]) Try.func126 rfl Try.ntmps126 (by simp) (fun _ _ _ _ h => h) fun F hF0 hFm => ?_
  have b1 := hl.cap; have b2 := hl.max; unfold maxLen at b2
  repeat (first | refine cg_seq ?_ | refine cg_region ?_ | refine rg_nil ?_ | refine eg_then ?_ | refine qsp ?_ | refine qsn ?_ | refine qsa ?_ | refine qss ?_ | refine qsi ?_ | refine qsz ?_ | refine qsl ?_ | refine qsg ?_ | refine qsf ?_ | refine qsd ?_ | refine qsE ?_ | refine qsX ?_ | refine qse ?_ | refine qsx ?_ | refine qso ?_ | refine cg_cond_true rfl ?_ | refine cg_cond_false rfl ?_ | refine cg_skip ?_ | refine cg_block ?_ | refine eg_in_normal ?_ | refine cg_ret ?_ | refine eg_then_ret ?_ | refine eg_in_ret ?_ | refine cg_exit ?_ | refine eg_then_exit ?_ | refine eg_in_exit ?_ | refine eg_in_other rfl ?_)
  refine cg_loop (fun (i : Nat) e k' => k' = k ∧ i ≤ l.length ∧ (∀ j, (h : j < l.length) → j < i → l[j] = 0) ∧ e = [(3, .is (.int .i64 0)), (6, .is (.slice a l.length c)), (7, .is (.int .i64 (l.length : Int))), (8, .is (.int .i64 (i : Int)))])
    (fun i => l.length - i) 0 ⟨rfl, Nat.zero_le _, fun j _ hj => by omega, rfl⟩ ⟨rfl, rfl, rfl, rfl, trivial⟩ ?_
  rintro i e k1 ⟨rfl, hi, hno, rfl⟩
  repeat (first | refine cg_seq ?_ | refine cg_region ?_ | refine rg_nil ?_ | refine eg_then ?_ | refine qsp ?_ | refine qsn ?_ | refine qsa ?_ | refine qss ?_ | refine qsi ?_ | refine qsz ?_ | refine qsl ?_ | refine qsg ?_ | refine qsf ?_ | refine qsd ?_ | refine qsE ?_ | refine qsX ?_ | refine qse ?_ | refine qsx ?_ | refine qso ?_ | refine cg_cond_true rfl ?_ | refine cg_cond_false rfl ?_ | refine cg_skip ?_ | refine cg_block ?_ | refine eg_in_normal ?_ | refine cg_ret ?_ | refine eg_then_ret ?_ | refine eg_in_ret ?_ | refine cg_exit ?_ | refine eg_then_exit ?_ | refine eg_in_exit ?_ | refine eg_in_other rfl ?_)
  refine cg_cond rfl (fun h => ?_) (fun h => ?_)
  · have hlt : i < l.length := by simpa using h
    obtain ⟨bx, ox, cx, rfl, ⟨rfl, hok⟩, hcx⟩ := hl.el i l[i] (List.getElem?_eq_getElem hlt)
    repeat (first | refine cg_seq ?_ | refine cg_region ?_ | refine rg_nil ?_ | refine eg_then ?_ | refine qsp ?_ | refine qsn ?_ | refine qsa ?_ | refine qss ?_ | refine qsi ?_ | refine qsz ?_ | refine qsl ?_ | refine qsg ?_ | refine qsf ?_ | refine qsd ?_ | refine qsE ?_ | refine qsX ?_ | refine qse ?_ | refine qsx ?_ | refine qso ?_ | refine cg_cond_true rfl ?_ | refine cg_cond_false rfl ?_ | refine cg_skip ?_ | refine cg_block ?_ | refine eg_in_normal ?_ | refine cg_ret ?_ | refine eg_then_ret ?_ | refine eg_in_ret ?_ | refine cg_exit ?_ | refine eg_then_exit ?_ | refine eg_in_exit ?_ | refine eg_in_other rfl ?_)
    refine cg_cond rfl (fun h => ?_) (fun h => ?_)
    · repeat (first | refine cg_seq ?_ | refine cg_region ?_ | refine rg_nil ?_ | refine eg_then ?_ | refine qsp ?_ | refine qsn ?_ | refine qsa ?_ | refine qss ?_ | refine qsi ?_ | refine qsz ?_ | refine qsl ?_ | refine qsg ?_ | refine qsf ?_ | refine qsd ?_ | refine qsE ?_ | refine qsX ?_ | refine qse ?_ | refine qsx ?_ | refine qso ?_ | refine cg_cond_true rfl ?_ | refine cg_cond_false rfl ?_ | refine cg_skip ?_ | refine cg_block ?_ | refine eg_in_normal ?_ | refine cg_ret ?_ | refine eg_then_ret ?_ | refine eg_in_ret ?_ | refine cg_exit ?_ | refine eg_then_exit ?_ | refine eg_in_exit ?_ | refine eg_in_other rfl ?_)
      refine eg_return rfl rfl ?_
      have hf : l.find? (fun n => n != 0) = some l[i] := by
        rw [List.find?_eq_some_iff_getElem]
        refine ⟨h, i, hlt, rfl, fun j hj => ?_⟩
        simp [hno j (by omega) hj]
      simp [orL, hf]
    · repeat (first | refine cg_seq ?_ | refine cg_region ?_ | refine rg_nil ?_ | refine eg_then ?_ | refine qsp ?_ | refine qsn ?_ | refine qsa ?_ | refine qss ?_ | refine qsi ?_ | refine qsz ?_ | refine qsl ?_ | refine qsg ?_ | refine qsf ?_ | refine qsd ?_ | refine qsE ?_ | refine qsX ?_ | refine qse ?_ | refine qsx ?_ | refine qso ?_ | refine cg_cond_true rfl ?_ | refine cg_cond_false rfl ?_ | refine cg_skip ?_ | refine cg_block ?_ | refine eg_in_normal ?_ | refine cg_ret ?_ | refine eg_then_ret ?_ | refine eg_in_ret ?_ | refine cg_exit ?_ | refine eg_then_exit ?_ | refine eg_in_exit ?_ | refine eg_in_other rfl ?_)
      refine eg_again (i + 1) _ ⟨rfl, hlt, fun j hj hji => ?_, rfl⟩ (by omega) ⟨rfl, rfl, rfl, rfl, trivial⟩
      by_cases e : j = i
      · subst e; simpa using h
      · exact hno j hj (by omega)
  · repeat (first | refine cg_seq ?_ | refine cg_region ?_ | refine rg_nil ?_ | refine eg_then ?_ | refine qsp ?_ | refine qsn ?_ | refine qsa ?_ | refine qss ?_ | refine qsi ?_ | refine qsz ?_ | refine qsl ?_ | refine qsg ?_ | refine qsf ?_ | refine qsd ?_ | refine qsE ?_ | refine qsX ?_ | refine qse ?_ | refine qsx ?_ | refine qso ?_ | refine cg_cond_true rfl ?_ | refine cg_cond_false rfl ?_ | refine cg_skip ?_ | refine cg_block ?_ | refine eg_in_normal ?_ | refine cg_ret ?_ | refine eg_then_ret ?_ | refine eg_in_ret ?_ | refine cg_exit ?_ | refine eg_then_exit ?_ | refine eg_in_exit ?_ | refine eg_in_other rfl ?_)
    refine eg_return rfl rfl ?_
    have hin : i = l.length := by simp at h; omega
    have hf : l.find? (fun n => n != 0) = none := by
      rw [List.find?_eq_none]
      intro x hx
      obtain ⟨j, hj, rfl⟩ := List.getElem_of_mem hx
      simp [hno j hj (by omega)]
    simp [orL, hf]
end Go.Wm

/-
  Cuts in plain Lean: the program's way, by places of transactions. Conditions: none.
-/
import Derived.Test.YtjonlpdnhbnmmaaGreatR5
import Derived.Lib.Bytealg
set_option linter.all false
namespace Go.Wm
open Go.RowKit Go.Proofs

theorem cell_of {k : PH} {w : World} {b off : Nat} {vs : List Value} (h : Cells k b off vs) (hs : Sub k w) {j : Nat} {u : Value} (hj : vs[j]? = some u) : w.cell? ⟨b, off + j, none⟩ = some u := by
  obtain ⟨c, et, fr, h1, h2⟩ := h
  have := hs b _ h1
  have h3 := h2 j u hj
  simp [World.cell?, this, h3]
theorem ret_of {k : PH} {w w' : World} {v : Value} {e : Ending} {φ : PH → Value → Prop} (hs : Sub k w) (he : e = .returned v) (hb : Below w.heap.size w w') (hφ : φ k v) : Ret k w φ e w' :=
  ⟨v, k, he, hb, fun b _ => rfl, fun b o h => by
    have hw := hs b o h
    rw [hb.block b (Array.getElem?_eq_some_iff.1 hw).1]
    exact hw, hφ⟩
theorem upto_map {α : Type} (l : List α) (f : α → Int) : uptoN (fun j => ((l[j]?).map f).getD 0) l.length = l.map f := by
  apply List.ext_getElem
  · simp [uptoN]
  · intro i h1 h2
    simp [uptoN] at h1
    simp [uptoN, h1]
theorem mins_map {α : Type} (f : α → Int) : ∀ (l : List α) (h : Int), minsL h (l.map f) = foldMin (fun _ => true) f h l
  | [], h => rfl
  | x :: l, h => by
    show minsL (if f x < h then f x else h) (l.map f) = foldMin _ f (if true = true then minI h (f x) else h) l
    rw [mins_map f l]
    rfl

theorem txStable_ct {k : PH} {t : Tx} {a0 : Option Addr} {c0 : Nat} {a1 : Option Addr} {c1 : Nat} {a2 : Option Addr} {c2 : Nat} (high : Int) (ht : TxAt k t a0 c0 a1 c1 a2 c2) (hb : t.openV.length ≤ 1000000) :
    CT Tryz.prog 15 #[.agg (t.cs a0 c0 a1 c1 a2 c2).toArray, .int .i64 high] k (fun _ v => v = .int .i64 (stabP t high)) := by
  intro w k1 hle hs
  have ho := ht.o.le hle
  have hbase : ∃ b off, 0 < t.openV.length → a0 = some ⟨b, off, none⟩ ∧ b < w.heap.size := by
    by_cases h0 : 0 < t.openV.length
    · obtain ⟨b, off, cx, rfl, ⟨rfl, _⟩, hc⟩ := ho.el 0 t.openV[0] (List.getElem?_eq_getElem h0)
      obtain ⟨c, et, fr, h1, _⟩ := hc
      exact ⟨b, off, fun _ => ⟨rfl, (Array.getElem?_eq_some_iff.1 (hs b _ h1)).1⟩⟩
    · exact ⟨0, 0, fun h => absurd h h0⟩
  obtain ⟨b, off, ha⟩ := hbase
  have := (callsIn_wide (n := 5)).1 (stable_in Fence.wide 5 trivial trivial trivial rfl (by omega) b off t.openV.length c0 a0 (.slice a1 t.gone.length c1) (.slice a2 t.done.length c2) (fun j => ((t.openV[j]?).map (·.pid)).getD 0) (fun j => ((t.openV[j]?).map (·.first)).getD 0) high w (by omega) ha (fun j hj => by
    obtain ⟨rfl, _⟩ := ha (by omega)
    obtain ⟨b', off', cx, e, ⟨rfl, _⟩, hc⟩ := ho.el j t.openV[j] (List.getElem?_eq_getElem hj)
    cases e
    simp only [List.getElem?_eq_getElem hj, Option.map_some, Option.getD_some]
    exact ⟨cell_of (j := 0) hc hs rfl, cell_of (j := 1) hc hs rfl⟩))
  refine Calls.mono this ?_
  rintro e w' ⟨he, hbl⟩
  refine ret_of hs he hbl ?_
  rw [upto_map, mins_map]
  rfl
end Go.Wm
namespace Go.Wm
open Go.RowKit Go.Proofs
attribute [local irreducible] RG CG EG WA Loc Det Alc CT Exit.then Exit.inBlock Code.wp bodyPost

def fewOne (v : View) : Bool := (decide (v.tx.openV.length ≤ 60) && (decide (v.tx.gone.length ≤ 60) && decide (v.tx.done.length ≤ 60))) && decide (v.tx.done.length ≤ 12)
def fewV (l : List View) : Bool := (l.take 20).all fewOne && decide (l.length ≤ 8)
def MayAt (l : List View) (i : Nat) (h : i < l.length) : Prop := tpP l[i].tp = true ∧ (0 < i → tpLess l[i - 1].tp l[i].tp = true) ∧ txP l[i].tx = true ∧ 0 ≤ l[i].high ∧ l[i].high ≤ 1099511627776
instance (l : List View) (i : Nat) (h : i < l.length) : Decidable (MayAt l i h) := by unfold MayAt; infer_instance
/-- May views be? -/
def MayV (l : List View) : Prop := ∀ i, (h : i < l.length) → MayAt l i h
instance (l : List View) : Decidable (MayV l) := by unfold MayV; infer_instance
end Go.Wm
-- cut by zcut
namespace Go.Wm
open Go.RowKit Go.Proofs
attribute [local irreducible] RG CG EG WA Loc Det Alc CT Exit.then Exit.inBlock Code.wp bodyPost

/-- One that is not below its mark. -/
def hit (pid no m : Int) (g : Gone) : Bool := (decide (g.pid = pid) && decide (g.no = no)) && decide (m ≤ g.last)
end Go.Wm
-- cut by zcut
namespace Go.Wm
open Go.RowKit Go.Proofs
attribute [local irreducible] RG CG EG WA Loc Det Alc CT Exit.then Exit.inBlock Code.wp bodyPost

/-- The cells of numbers, side by side. -/
def curR (cur : List Int) : List Value := (cur.map fun n => [Value.int .i64 n]).flatten
theorem curR_eq (cur : List Int) : curR cur = cur.flatMap fun n => [Value.int .i64 n] := by simp [curR, List.flatMap]
theorem rowI_el {N : Nat} {k : PH} {et : Nat} {v : Value} {m i : Nat} {cur : List Int} (h : Row N k et 1 v m (curR cur)) (hi : i < cur.length) :
    ∃ g cap cs, v = .slice (some ⟨g, 0, none⟩) m cap ∧ N ≤ g ∧ k g = some (.cells cs et (0, 0)) ∧ i < m ∧ 0 + i * 1 + 1 ≤ cs.size ∧ Cells k g (0 + i * 1) [.int .i64 cur[i]] ∧
      ∀ k' x, k' g = some (.cells (cs.setIfInBounds (0 + i * 1) (Value.int .i64 x)) et (0, 0)) → Row N k' et 1 v m (curR (cur.set i x)) := by
  obtain ⟨g, cap, cs, h1, h2, h3, h4, _, h5, h6, h7⟩ := Row.el h (fun y hy => by rw [List.mem_map] at hy; obtain ⟨n, _, rfl⟩ := hy; rfl) (i := i) (cs := [.int .i64 cur[i]]) (by simp [hi]) (by omega)
  refine ⟨g, cap, cs, h1, h2, h3, h4, h5, h6, fun k' x hk => ?_⟩
  have e : cs.setIfInBounds (0 + i * 1) (Value.int .i64 x) = (cs.toList.take (0 + i * 1) ++ [Value.int .i64 x] ++ cs.toList.drop (0 + i * 1 + 1)).toArray := by
    apply Array.toList_inj.1
    rw [Array.toList_setIfInBounds, List.set_eq_take_append_cons_drop, if_pos (by simp at h5 ⊢; omega)]
    simp
  rw [e] at hk
  have := h7 k' [.int .i64 x] rfl hk
  unfold curR
  rw [List.map_set]
  exact this

def outL (l : List View) (m : List Int) (i : Nat) : List Int := (lowP l m).take i ++ m.drop i
theorem gone_ok {k : PH} {a : Option Addr} {c : Nat} {l : List Gone} (hl : Sl tGone k a c l) : ∀ m ∈ l, m.ok := fun m hm => by
  obtain ⟨i, hi, rfl⟩ := List.getElem_of_mem hm
  obtain ⟨_, _, _, _, ⟨_, h⟩, _⟩ := hl.el i l[i] (List.getElem?_eq_getElem hi)
  exact h
end Go.Wm
-- cut by zcut
namespace Go.Wm
open Go.RowKit Go.Proofs
section
variable {P : Program} {o : Oper} {e : Env} {k : PH}
theorem d_cmpstr {x y z : Operand} {f : FuncId} {fn : Func} {ats : Array TypeId} {a b : ByteArray} (hop : o.op = .call { callee := .value x, args := #[y, z], argTypes := ats }) (hx : opv e x = some (.func (.func f) #[] #[])) (hy : opv e y = some (.string a)) (hz : opv e z = some (.string b))
    (hf : P.funcs[f]? = some fn) (hname : (fn.name == "runtime.NumGoroutine") = false) (hb : fn.body.isNone = true) (hn : Extern.findNext fn = none) (he : Extern.find fn = some Extern.BytealgCompare.compare) : Det P e k o (.int .i64 (Lib.compareBytes a.data.toList b.data.toList)) := by
  intro ev w hev _
  rw [hop] at hev
  have e1 := hev x (by simp [Op.operands, Call.operands]) _ hx
  have e2 := hev y (by simp [Op.operands, Call.operands]) _ hy
  have e3 := hev z (by simp [Op.operands, Call.operands]) _ hz
  have h := run_callFunc_extern hf hname hb hn he #[.string a, .string b] w
  rw [Lib.run_compareString] at h
  simp only [Result.andThen] at h
  simp [execOp, hop, resolve, Deferred.ofValue, invoke, e1, e2, e3, h]
end

attribute [local irreducible] RG CG EG WA Loc Det Alc CT Exit.then Exit.inBlock Code.wp bodyPost

theorem sl_flat {α : Type} {T : Ty α} {f : α → List Value} {k : PH} {b : Nat} {c : Array Value} {et : TypeId} {fr : Nat × Nat} {xs : List α} (h : k b = some (.cells c et fr)) (hc : c.toList = xs.flatMap f) (hr : ∀ x ∈ xs, T.rep k (f x) x) (hm : xs.length ≤ maxLen) : Sl T k (some ⟨b, 0, none⟩) xs.length xs :=
  sl_rows (css := xs.map f) h (by rw [hc]; simp [List.flatMap]) (by simp) (fun i cs x h1 h2 => by
    rw [List.getElem?_map, h2] at h1
    cases h1
    exact hr x (List.mem_of_getElem? h2)) hm
theorem sl_none {α : Type} (T : Ty α) (k : PH) : Sl T k none 0 [] := ⟨by simp, by simp [maxLen], fun _ => rfl, by simp, by simp⟩

def cmpInt (a b : Int) : Int := if a < b then -1 else if a > b then 1 else 0
def cmpStr (a b : ByteArray) : Int := Lib.compareBytes a.data.toList b.data.toList
def orL (l : List Int) : Int := (l.find? fun n => n != 0).getD 0
def ordTp (a b : Tp) : Int := orL [cmpStr a.topic b.topic, cmpInt a.part b.part, cmpInt a.home b.home]

theorem cmpBytes_cases : ∀ (a b : List UInt8), (Lib.compareBytes a b = -1 ∧ a < b) ∨ (Lib.compareBytes a b = 0 ∧ a = b) ∨ (Lib.compareBytes a b = 1 ∧ ¬ a < b ∧ a ≠ b)
  | [], [] => .inr (.inl ⟨rfl, rfl⟩)
  | [], b :: ys => .inl ⟨rfl, by simp⟩
  | a :: xs, [] => .inr (.inr ⟨rfl, by simp, by simp⟩)
  | a :: xs, b :: ys => by
    unfold Lib.compareBytes
    by_cases h : a < b
    · rw [if_pos h]
      exact .inl ⟨rfl, by rw [List.cons_lt_cons_iff]; exact .inl h⟩
    · rw [if_neg h]
      by_cases h2 : b < a
      · rw [if_pos h2]
        have hne : a ≠ b := by rintro rfl; exact h h2
        refine .inr (.inr ⟨rfl, ?_, by simp [hne]⟩)
        rw [List.cons_lt_cons_iff]
        rintro (h3 | ⟨h3, _⟩)
        · exact h h3
        · exact hne h3
      · rw [if_neg h2]
        have he : a = b := by
          apply UInt8.le_antisymm
          · exact UInt8.not_lt.1 h2
          · exact UInt8.not_lt.1 h
        subst he
        rcases cmpBytes_cases xs ys with ⟨h3, h4⟩ | ⟨h3, h4⟩ | ⟨h3, h4, h5⟩
        · exact .inl ⟨h3, by rw [List.cons_lt_cons_iff]; exact .inr ⟨rfl, h4⟩⟩
        · exact .inr (.inl ⟨h3, by rw [h4]⟩)
        · refine .inr (.inr ⟨h3, ?_, by simp [h5]⟩)
          rw [List.cons_lt_cons_iff]
          rintro (h6 | ⟨_, h6⟩)
          · exact h h6
          · exact h4 h6
theorem bytes_ext {a b : ByteArray} (h : a.data.toList = b.data.toList) : a = b := ByteArray.ext (Array.toList_inj.1 h)
theorem orL3 (x y z : Int) : orL [x, y, z] = if x ≠ 0 then x else if y ≠ 0 then y else z := by
  by_cases hx : x = 0 <;> by_cases hy : y = 0 <;> by_cases hz : z = 0 <;> simp [orL, hx, hy, hz]
theorem cmpInt_cases (a b : Int) : (cmpInt a b = -1 ∧ a < b) ∨ (cmpInt a b = 0 ∧ a = b) ∨ (cmpInt a b = 1 ∧ b < a) := by
  unfold cmpInt
  by_cases h : a < b
  · exact .inl ⟨by simp [h], h⟩
  · by_cases h2 : b < a
    · exact .inr (.inr ⟨by simp [h, h2], h2⟩)
    · exact .inr (.inl ⟨by simp [h, h2], by omega⟩)
theorem ordTp_less (a b : Tp) : decide (ordTp a b ≥ 0) = !tpLess a b := by
  unfold ordTp tpLess strLt cmpStr
  rw [orL3]
  rcases cmpBytes_cases a.topic.data.toList b.topic.data.toList with ⟨h3, h4⟩ | ⟨h3, h4⟩ | ⟨h3, h4, h5⟩
  · have hne : a.topic ≠ b.topic := fun h => by
      rw [h] at h4
      exact absurd h4 (List.lt_irrefl _)
    rw [h3, if_pos hne]
    simp [h4]
  · have he : a.topic = b.topic := bytes_ext h4
    rw [h3, if_neg (by simp [he])]
    rcases cmpInt_cases a.part b.part with ⟨h6, h7⟩ | ⟨h6, h7⟩ | ⟨h6, h7⟩
    · rw [h6, if_pos (by omega)]
      have : a.part ≠ b.part := by omega
      simp [h7, he, this]
    · rw [h6, if_neg (by simp [h7])]
      rcases cmpInt_cases a.home b.home with ⟨h8, h9⟩ | ⟨h8, h9⟩ | ⟨h8, h9⟩
      · rw [h8]; simp [h9, he, h7]
      · rw [h8]; simp [h9, he, h7]
      · rw [h8]; simp [he, h7]; omega
    · rw [h6, if_pos (by omega)]
      have : a.part ≠ b.part := by omega
      simp [he, this]; omega
  · have hne : a.topic ≠ b.topic := fun h => h5 (by rw [h])
    rw [h3, if_pos hne]
    simpa using h4

theorem cmpString_ct {k : PH} (a b : ByteArray) : CT Tryz.prog 130 #[.string a, .string b] k (fun _ v => v = .int .i64 (cmpStr a b)) := by
  refine ct_of_body (l := [_, _]) Tryz.func130 rfl Tryz.ntmps130 (by simp) (fun _ _ _ _ h => h) fun F hF0 hFm => ?_
  repeat (first | refine cg_seq ?_ | refine cg_region ?_ | refine rg_nil ?_ | refine eg_then ?_ | refine qsp ?_)
  refine rs rfl rfl (loc_det rfl (d_cmpstr rfl rfl rfl rfl Tryz.func138 (by kernel_rfl) (by kernel_rfl) (by kernel_rfl) (by kernel_rfl))) ?_
  repeat (first | refine rg_nil ?_ | refine eg_then ?_ | refine qsp ?_ | refine cg_ret ?_)
  exact eg_return rfl rfl rfl
theorem strCompare_ct {k : PH} (a b : ByteArray) : CT Tryz.prog 119 #[.string a, .string b] k (fun _ v => v = .int .i64 (cmpStr a b)) := by
  refine ct_of_body (l := [_, _]) Tryz.func119 rfl Tryz.ntmps119 (by simp) (fun _ _ _ _ h => h) fun F hF0 hFm => ?_
  repeat (first | refine cg_seq ?_ | refine cg_region ?_ | refine rg_nil ?_ | refine eg_then ?_ | refine qsp ?_)
  refine rs rfl rfl (loc_call_is rfl rfl rfl rfl (cmpString_ct a b)) ?_
  repeat (first | refine rg_nil ?_ | refine eg_then ?_ | refine qsp ?_ | refine cg_ret ?_)
  exact eg_return rfl rfl rfl
theorem isNaN_ct {k : PH} (a : Int) : CT Tryz.prog 109 #[.int .i64 a] k (fun _ v => v = .bool false) := by
  refine ct_of_body (l := [_]) Tryz.func109 rfl Tryz.ntmps109 (by simp) (fun _ _ _ _ h => h) fun F hF0 hFm => ?_
  repeat (first | refine cg_seq ?_ | refine cg_region ?_ | refine rg_nil ?_ | refine eg_then ?_ | refine qsp ?_ | refine cg_ret ?_)
  refine eg_return rfl rfl ?_
  simp
set_option maxHeartbeats 400000 in
theorem cmpInt_ct {k : PH} (a b : Int) : CT Tryz.prog 91 #[.int .i64 a, .int .i64 b] k (fun _ v => v = .int .i64 (cmpInt a b)) := by
  refine ct_of_body (l := [_, _]) Tryz.func91 rfl Tryz.ntmps91 (by simp) (fun _ _ _ _ h => h) fun F hF0 hFm => ?_
  repeat (first | refine cg_seq ?_ | refine cg_region ?_ | refine rg_nil ?_ | refine eg_then ?_ | refine qsp ?_)
  refine rs rfl rfl (loc_call_is rfl rfl rfl rfl (isNaN_ct a)) ?_
  repeat (first | refine cg_seq ?_ | refine cg_region ?_ | refine rg_nil ?_ | refine eg_then ?_ | refine qsp ?_)
  refine rs rfl rfl (loc_call_is rfl rfl rfl rfl (isNaN_ct b)) ?_
  repeat (first | refine cg_seq ?_ | refine cg_region ?_ | refine rg_nil ?_ | refine eg_then ?_ | refine qsp ?_ | refine cg_cond_false rfl ?_ | refine cg_skip ?_)
  refine cg_cond rfl (fun h => ?_) (fun h => ?_)
  · repeat (first | refine cg_seq ?_ | refine cg_region ?_ | refine rg_nil ?_ | refine eg_then ?_ | refine qsp ?_ | refine cg_ret ?_ | refine eg_then_ret ?_)
    refine eg_return rfl rfl ?_
    have h : a < b := by simpa using h
    simp [cmpInt, h]
  · repeat (first | refine cg_seq ?_ | refine cg_region ?_ | refine rg_nil ?_ | refine eg_then ?_ | refine qsp ?_ | refine cg_skip ?_)
    have h : ¬ a < b := by simp at h; omega
    refine cg_cond rfl (fun h2 => ?_) (fun h2 => ?_)
    · repeat (first | refine cg_seq ?_ | refine cg_region ?_ | refine rg_nil ?_ | refine eg_then ?_ | refine qsp ?_ | refine cg_ret ?_ | refine eg_then_ret ?_)
      refine eg_return rfl rfl ?_
      have h2 : b < a := by simp at h2; omega
      simp [cmpInt, h, h2]
    · repeat (first | refine cg_seq ?_ | refine cg_region ?_ | refine rg_nil ?_ | refine eg_then ?_ | refine qsp ?_ | refine cg_skip ?_ | refine cg_ret ?_)
      refine eg_return rfl rfl ?_
      have h2 : ¬ b < a := by simp at h2; omega
      simp [cmpInt, h, h2]
set_option maxHeartbeats 400000 in
theorem or_ct {k : PH} {a : Option Addr} {c : Nat} {l : List Int} (hl : Sl tInt k a c l) : CT Tryz.prog 118 #[.slice a l.length c] k (fun _ v => v = .int .i64 (orL l)) := by
  refine ct_of_body (l := [_]) Tryz.func118 rfl Tryz.ntmps118 (by simp) (fun _ _ _ _ h => h) fun F hF0 hFm => ?_
  have b1 := hl.cap; have b2 := hl.max; unfold maxLen at b2
  repeat (first | refine cg_seq ?_ | refine cg_region ?_ | refine rg_nil ?_ | refine eg_then ?_ | refine qsp ?_ | refine qsn ?_ | refine cg_block ?_)
  refine cg_loop (fun (i : Nat) e k' => k' = k ∧ i ≤ l.length ∧ (∀ j, (h : j < l.length) → j < i → l[j] = 0) ∧ e = [(3, .is (.int .i64 0)), (6, .is (.slice a l.length c)), (7, .is (.int .i64 (l.length : Int))), (8, .is (.int .i64 (i : Int)))])
    (fun i => l.length - i) 0 ⟨rfl, Nat.zero_le _, fun j _ hj => by omega, rfl⟩ ⟨rfl, rfl, rfl, rfl, trivial⟩ ?_
  rintro i e k1 ⟨rfl, hi, hno, rfl⟩
  repeat (first | refine cg_seq ?_ | refine cg_region ?_ | refine rg_nil ?_ | refine eg_then ?_ | refine qsp ?_)
  refine cg_cond rfl (fun h => ?_) (fun h => ?_)
  · have hlt : i < l.length := by simpa using h
    obtain ⟨bx, ox, cx, rfl, ⟨rfl, hok⟩, hcx⟩ := hl.el i l[i] (List.getElem?_eq_getElem hlt)
    repeat (first | refine cg_seq ?_ | refine cg_region ?_ | refine rg_nil ?_ | refine eg_then ?_ | refine qsp ?_ | refine qsi ?_ | refine qsl ?_ | refine cg_skip ?_ | refine cg_block ?_)
    refine cg_cond rfl (fun h => ?_) (fun h => ?_)
    · repeat (first | refine cg_seq ?_ | refine cg_region ?_ | refine rg_nil ?_ | refine eg_then ?_ | refine qsp ?_ | refine cg_ret ?_ | refine eg_then_ret ?_ | refine eg_in_ret ?_)
      refine eg_return rfl rfl ?_
      have hf : l.find? (fun n => n != 0) = some l[i] := by
        rw [List.find?_eq_some_iff_getElem]
        refine ⟨h, i, hlt, rfl, fun j hj => ?_⟩
        simp [hno j (by omega) hj]
      simp [orL, hf]
    · repeat (first | refine cg_region ?_ | refine rg_nil ?_ | refine eg_then ?_ | refine qsp ?_ | refine qsa ?_ | refine cg_skip ?_ | refine eg_in_normal ?_)
      refine eg_again (i + 1) _ ⟨rfl, hlt, fun j hj hji => ?_, rfl⟩ (by omega) ⟨rfl, rfl, rfl, rfl, trivial⟩
      by_cases e : j = i
      · subst e; simpa using h
      · exact hno j hj (by omega)
  · repeat (first | refine cg_seq ?_ | refine cg_region ?_ | refine rg_nil ?_ | refine eg_then ?_ | refine qsp ?_ | refine cg_ret ?_ | refine cg_exit ?_ | refine eg_then_exit ?_ | refine eg_in_exit ?_)
    refine eg_return rfl rfl ?_
    have hin : i = l.length := by simp at h; omega
    have hf : l.find? (fun n => n != 0) = none := by
      rw [List.find?_eq_none]
      intro x hx
      obtain ⟨j, hj, rfl⟩ := List.getElem_of_mem hx
      simp [hno j hj (by omega)]
    simp [orL, hf]
end Go.Wm
namespace Go.Wm
open Go.RowKit Go.Proofs
attribute [local irreducible] RG CG EG WA Loc Det Alc CT Exit.then Exit.inBlock Code.wp bodyPost

set_option maxHeartbeats 400000 in
theorem ord_ct {k : PH} (a b : Tp) (hk : True) : CT Tryz.prog 104 #[.agg a.vs.toArray, .agg b.vs.toArray] k (fun _ v => v = .int .i64 (ordTp a b)) := by
  refine ct_of_body (l := [_, _]) Tryz.func104 rfl Tryz.ntmps104 (by simp) (fun _ _ _ _ h => h) fun F hF0 hFm => ?_
  repeat (first | refine cg_seq ?_ | refine cg_region ?_)
  refine rb rfl rfl rfl rfl (a_box rfl rfl) ?_; intro b2 k2 hb2 hN2 hle2 hk2
  skip
  refine rb rfl rfl rfl rfl (a_box rfl rfl) ?_; intro b3 k3 hb3 hN3 hle3 hk3
  have c2 := (cells_at (vs := a.vs) hk2 rfl).le hle3
  have c3 := cells_at (vs := b.vs) hk3 rfl
  obtain ⟨p0, p1, p2⟩ := Tp.parts c2
  obtain ⟨p3, p4, p5⟩ := Tp.parts c3
  repeat (first | refine cg_seq ?_ | refine rg_nil ?_ | refine eg_then ?_ | refine qsp ?_)
  refine cg_fresh 15 [] (by kernel_rfl) (by kernel_rfl) rfl rfl rfl ?_
  dsimp only [List.take]
  repeat (first | refine qfl ?_ | refine qff ?_)
  refine fs_s rfl (loc_call_is rfl rfl rfl rfl (strCompare_ct a.topic b.topic)) rfl ?_
  repeat (first | refine qfl ?_ | refine qff ?_)
  refine fs_s rfl (loc_call_is rfl rfl rfl rfl (cmpInt_ct a.part b.part)) rfl ?_
  repeat (first | refine qfl ?_ | refine qff ?_)
  refine fs_s rfl (loc_call_is rfl rfl rfl rfl (cmpInt_ct a.home b.home)) rfl ?_
  skip
  refine fs_nil ?_
  intro k9 vs hle9 _ _ _
  dsimp only [List.drop, nameE, nameP]
  refine rb rfl rfl rfl rfl (a_slice (cells := [cmpStr a.topic b.topic, cmpInt a.part b.part, cmpInt a.home b.home].flatMap fun n => [Value.int .i64 n]) rfl rfl rfl rfl (by kernel_rfl) rfl) ?_; intro b11 k11 hb11 hN11 hle11 hk11
  have hsl : Sl tInt k11 (some ⟨b11, 0, none⟩) 3 [cmpStr a.topic b.topic, cmpInt a.part b.part, cmpInt a.home b.home] := sl_flat (xs := [cmpStr a.topic b.topic, cmpInt a.part b.part, cmpInt a.home b.home]) (f := fun n => [Value.int .i64 n]) hk11 rfl (fun x hx => ⟨rfl, by
      have e1 := cmpBytes_cases a.topic.data.toList b.topic.data.toList
      have e2 := cmpInt_cases a.part b.part
      have e3 := cmpInt_cases a.home b.home
      unfold I64
      simp only [List.mem_cons, List.not_mem_nil, or_false] at hx
      rcases hx with rfl | rfl | rfl
      · unfold cmpStr; omega
      · omega
      · omega⟩) (by simp [maxLen])
  skip
  refine rs rfl rfl (loc_call_is rfl rfl rfl rfl (or_ct hsl)) ?_
  repeat (first | refine rg_nil ?_ | refine eg_then ?_ | refine qsp ?_ | refine cg_ret ?_)
  exact eg_return rfl rfl rfl

def okR (r : Int) : Bool := !(decide (r < 33) || decide (r > 126))
set_option maxHeartbeats 400000 in
theorem name1_ct {k : PH} (r : Int) : CT Tryz.prog 117 #[.int .i32 r] k (fun _ v => v = .bool (!okR r)) := by
  refine ct_of_body (l := [_]) Tryz.func117 rfl Tryz.ntmps117 (by simp) (fun _ _ _ _ h => h) fun F hF0 hFm => ?_
  repeat (first | refine cg_seq ?_ | refine cg_region ?_ | refine rg_nil ?_ | refine eg_then ?_ | refine qsp ?_)
  refine rs rfl rfl (loc_det rfl (d_cmp rfl rfl rfl rfl)) ?_
  repeat (first | refine qsp ?_)
  cases q : decide (r < 33)
  · repeat (first | refine qsp ?_)
    refine rs rfl rfl (loc_det rfl (d_cmp rfl rfl rfl rfl)) ?_
    repeat (first | refine rg_nil ?_ | refine eg_then ?_ | refine qsp ?_ | refine cg_ret ?_)
    refine eg_return rfl rfl ?_
    simp [okR]
    simp at q
    intro; omega
  · repeat (first | refine rg_nil ?_ | refine eg_then ?_ | refine qsp ?_ | refine qso ?_ | refine cg_ret ?_)
    refine eg_return rfl rfl ?_
    simp [okR, q]

def allOk (s : ByteArray) : Bool := decide (∀ i, (h : i < s.size) → okB s[i] = true)
theorem get_at {s : ByteArray} {i : Nat} (h : i < s.size) : s.get! i = s[i] := by
  simp only [ByteArray.get!]
  rw [getElem!_pos s.data i h]
  rfl
set_option maxHeartbeats 400000 in
theorem indexFuncS_ct {k : PH} (s : ByteArray) (hs : s.size ≤ maxLen) : CT Tryz.prog 129 #[.string s, .func (.func 117) #[] #[], .bool true] k (fun _ v => ∃ n, v = .int .i64 n ∧ decide (n < 0) = allOk s) := by
  refine ct_of_body (l := [_, _, _]) Tryz.func129 rfl Tryz.ntmps129 (by simp) (fun _ _ _ _ h => h) fun F hF0 hFm => ?_
  unfold maxLen at hs
  repeat (first | refine cg_seq ?_ | refine cg_region ?_ | refine rg_nil ?_ | refine eg_then ?_ | refine qsp ?_)
  refine rb rfl rfl rfl rfl (a_rangeS rfl rfl) ?_; intro b1 k1 hb1 hN1 hle1 hk1
  repeat (first | refine rg_nil ?_ | refine eg_then ?_ | refine cg_block ?_)
  refine cg_loop (fun (pos : Nat) e k' => Le k k' ∧ k' b1 = some (.stringIter s pos) ∧ pos ≤ s.size ∧ (∀ j, (h : j < s.size) → j < pos → okB s[j] = true) ∧ e = [(1, .is (.func (.func 117) #[] #[])), (2, .is (.bool true)), (10, .is (.pointer (some ⟨b1, 0, none⟩)))])
    (fun pos => s.size - pos) 0 ⟨hle1, hk1, Nat.zero_le _, fun j _ hj => by omega, rfl⟩ ⟨rfl, rfl, rfl, trivial⟩ ?_
  rintro pos e k2 ⟨hle, hit, hpos, hno, rfl⟩
  refine cg_seq ?_
  refine cg_region ?_
  refine r_nextS rfl rfl rfl rfl rfl rfl hit hN1 (fun h => ?_) (fun h => ?_)
  · repeat (first | refine cg_seq ?_ | refine cg_region ?_ | refine rg_nil ?_ | refine eg_then ?_ | refine qsp ?_ | refine cg_cond_false rfl ?_ | refine cg_ret ?_ | refine cg_exit ?_ | refine eg_then_exit ?_ | refine eg_in_exit ?_)
    refine eg_return rfl rfl ?_
    have hin : pos = s.size := by omega
    refine ⟨-1, rfl, ?_⟩
    unfold allOk
    rw [decide_eq_true (fun j hj => hno j hj (by omega))]
    rfl
  · intro k3 ht3 hk3
    have hle3 := ht3 k hle hb1
    have hd : okR ((Utf8.decode s pos).1 : Int) = okB s[pos] ∧ (okB s[pos] = true → (Utf8.decode s pos).2 = 1) := by
      by_cases hlow : (s.get! pos).toNat < 128
      · have := dec_low hlow
        rw [this]
        rw [get_at h] at hlow ⊢
        refine ⟨?_, fun _ => rfl⟩
        unfold okR okB
        rw [Bool.eq_iff_iff]
        simp
        omega
      · have := dec_high (by omega : 128 ≤ (s.get! pos).toNat)
        rw [get_at h] at hlow
        have hb : okB s[pos] = false := by
          unfold okB
          simp
          omega
        rw [hb]
        refine ⟨?_, fun h => by cases h⟩
        unfold okR
        simp
        omega
    repeat (first | refine cg_seq ?_ | refine cg_region ?_ | refine rg_nil ?_ | refine eg_then ?_ | refine qsp ?_ | refine cg_cond_true rfl ?_ | refine cg_skip ?_ | refine cg_block ?_)
    refine rs rfl rfl (loc_call_is rfl rfl rfl rfl (name1_ct (((Utf8.decode s pos).1 : Nat) : Int))) ?_
    repeat (first | refine qsp ?_)
    refine rs rfl rfl (loc_det rfl (d_eqb rfl rfl rfl)) ?_
    cases q : okR ((Utf8.decode s pos).1 : Int)
    · repeat (first | refine cg_seq ?_ | refine cg_region ?_ | refine rg_nil ?_ | refine eg_then ?_ | refine qsp ?_ | refine cg_cond_true rfl ?_ | refine cg_ret ?_ | refine eg_then_ret ?_ | refine eg_in_ret ?_)
      refine eg_return rfl rfl ⟨(pos : Int), rfl, ?_⟩
      have hb : okB s[pos] = false := by rw [← hd.1]; exact q
      have : allOk s = false := by
        unfold allOk
        rw [decide_eq_false]
        intro ha
        rw [ha pos h] at hb
        cases hb
      rw [this, decide_eq_false]
      omega
    · have hb : okB s[pos] = true := by rw [← hd.1]; exact q
      have h1 := hd.2 hb
      rw [h1] at hk3
      repeat (first | refine rg_nil ?_ | refine eg_then ?_ | refine cg_cond_false rfl ?_ | refine cg_skip ?_ | refine eg_in_normal ?_)
      refine eg_again (pos + 1) _ ⟨hle3, hk3, h, fun j hj hji => ?_, rfl⟩ (by omega) ⟨rfl, rfl, rfl, trivial⟩
      by_cases e : j = pos
      · subst e; exact hb
      · exact hno j hj (by omega)

set_option maxHeartbeats 400000 in
theorem indexFuncSt_ct {k : PH} (s : ByteArray) (hs : s.size ≤ maxLen) : CT Tryz.prog 116 #[.string s, .func (.func 117) #[] #[]] k (fun _ v => ∃ n, v = .int .i64 n ∧ decide (n < 0) = allOk s) := by
  refine ct_of_body (l := [_, _]) Tryz.func116 rfl Tryz.ntmps116 (by simp) (fun _ _ _ _ h => h) fun F hF0 hFm => ?_
  repeat (first | refine cg_seq ?_ | refine cg_region ?_ | refine rg_nil ?_ | refine eg_then ?_ | refine qsp ?_)
  refine rv rfl rfl rfl (loc_call rfl rfl rfl rfl (fun k k' v hle h => h) (indexFuncS_ct s hs)) ?_
  rintro k1 hle1 _ ⟨n, rfl, hn⟩
  repeat (first | refine rg_nil ?_ | refine eg_then ?_ | refine qsp ?_ | refine cg_ret ?_)
  exact eg_return rfl rfl ⟨n, rfl, hn⟩

theorem isName_all (s : ByteArray) : isName s = (decide (s ≠ ⟨#[]⟩) && (decide (s.size ≤ 64) && allOk s)) := by
  unfold isName
  have : decide (1 ≤ s.size) = decide (s ≠ ⟨#[]⟩) := by
    rw [decide_eq_decide]
    constructor
    · rintro h rfl
      exact absurd h (by decide)
    · intro h
      rcases Nat.eq_zero_or_pos s.size with h0 | h0
      · exfalso
        apply h
        apply ByteArray.ext
        exact Array.eq_empty_of_size_eq_zero h0
      · exact h0
  rw [← this]
  show (allOk s && _) = _
  cases allOk s <;> simp

set_option maxHeartbeats 400000 in
theorem name_ct {k : PH} (s : ByteArray) (hs : s.size ≤ maxLen) : CT Tryz.prog 103 #[.string s] k (fun _ v => v = .bool (isName s)) := by
  refine ct_of_body (l := [_]) Tryz.func103 rfl Tryz.ntmps103 (by simp) (fun _ _ _ _ h => h) fun F hF0 hFm => ?_
  repeat (first | refine cg_seq ?_ | refine cg_region ?_ | refine rg_nil ?_ | refine eg_then ?_ | refine qsp ?_)
  refine rv rfl rfl rfl (loc_call rfl rfl rfl rfl (fun k k' v hle h => h) (indexFuncSt_ct s hs)) ?_
  rintro k1 hle1 _ ⟨n, rfl, hn⟩
  have hall := isName_all s
  repeat (first | refine cg_seq ?_ | refine cg_region ?_ | refine rg_nil ?_ | refine eg_then ?_ | refine qsp ?_)
  cases q1 : decide (s = ⟨#[]⟩)
  · have q1' : s ≠ ⟨#[]⟩ := by simpa using q1
    repeat (first | refine qsp ?_)
    refine rs rfl rfl (loc_det rfl (d_len_str rfl rfl)) ?_
    repeat (first | refine qsp ?_)
    cases q2 : decide ((s.size : Int) ≤ 64)
    · repeat (first | refine rg_nil ?_ | refine eg_then ?_ | refine qsp ?_ | refine qso ?_ | refine cg_ret ?_)
      refine eg_return rfl rfl ?_
      have : ¬ s.size ≤ 64 := by simp at q2; omega
      rw [hall]
      simp [this]
    · repeat (first | refine rg_nil ?_ | refine eg_then ?_ | refine qsp ?_ | refine cg_ret ?_)
      refine eg_return rfl rfl ?_
      have : s.size ≤ 64 := by simp at q2; omega
      rw [hall, hn]
      simp [this, q1']
  · repeat (first | refine rg_nil ?_ | refine eg_then ?_ | refine qsp ?_ | refine qso ?_ | refine cg_ret ?_)
    refine eg_return rfl rfl ?_
    have : s = ⟨#[]⟩ := by simpa using q1
    rw [hall]
    simp [this]
end Go.Wm
namespace Go.Wm

def markAt (m : List Int) (p : Pl) : Int := m.getD p.view.toNat 0
/-- Is a transaction not below marks everywhere? -/
def heldP (m : List Int) (ps : List Pl) : Bool := ps.any fun p => decide (markAt m p ≤ p.last)
def goodP (m : List Int) (ps : List Pl) : Bool := !heldP m ps || ps.all fun p => decide (markAt m p ≤ p.first)
/-- Where a committed transaction stands. -/
def donePl (l : List View) (pid no : Int) : List Pl := l.zipIdx.flatMap fun q => (q.1.tx.done.filter fun g => decide (g.pid = pid) && decide (g.no = no)).map fun g => ⟨(q.2 : Int), g.first, g.last⟩
theorem donePl_mem {l : List View} {pid no : Int} {p : Pl} : p ∈ donePl l pid no ↔ ∃ i, ∃ hi : i < l.length, ∃ g ∈ l[i].tx.done, g.pid = pid ∧ g.no = no ∧ p = ⟨(i : Int), g.first, g.last⟩ := by
  unfold donePl
  simp only [List.mem_flatMap, List.mem_map, List.mem_filter, Bool.and_eq_true, decide_eq_true_eq]
  constructor
  · rintro ⟨⟨v, i⟩, hq, g, ⟨hg, h1, h2⟩, rfl⟩
    rw [List.mk_mem_zipIdx_iff_getElem?] at hq
    obtain ⟨hi, rfl⟩ := List.getElem?_eq_some_iff.1 hq
    exact ⟨i, hi, g, hg, h1, h2, rfl⟩
  · rintro ⟨i, hi, g, hg, h1, h2, rfl⟩
    exact ⟨(l[i], i), List.mk_mem_zipIdx_iff_getElem?.2 (List.getElem?_eq_getElem hi), g, ⟨hg, h1, h2⟩, rfl⟩
/-- The lists of places, of all transactions. -/
structure Places (l : List View) (T : List (List Pl)) : Prop where
  of : ∀ ps ∈ T, (∃ pid no, ps = donePl l pid no) ∨ ∃ i, ∃ hi : i < l.length, ∃ g ∈ l[i].tx.gone, ps = [⟨(i : Int), g.first, g.last⟩]
  done : ∀ i, (hi : i < l.length) → ∀ g ∈ l[i].tx.done, donePl l g.pid g.no ∈ T
  gone : ∀ i, (hi : i < l.length) → ∀ g ∈ l[i].tx.gone, ([⟨(i : Int), g.first, g.last⟩] : List Pl) ∈ T
theorem markAt_nat {m : List Int} {i : Nat} (h : i < m.length) (a b : Int) : markAt m ⟨(i : Int), a, b⟩ = m[i] := by
  simp [markAt, h]
theorem Places.range {l : List View} {T : List (List Pl)} (h : Places l T) : ∀ ps ∈ T, ∀ p ∈ ps, ∃ i, i < l.length ∧ p.view = (i : Int) := fun ps hps p hp => by
  rcases h.of ps hps with ⟨pid, no, rfl⟩ | ⟨i, hi, g, _, rfl⟩
  · obtain ⟨i, hi, g, _, _, _, rfl⟩ := donePl_mem.1 hp
    exact ⟨i, hi, rfl⟩
  · simp at hp
    subst hp
    exact ⟨i, hi, rfl⟩
theorem held_done {l : List View} {m : List Int} (hm : m.length = l.length) (pid no : Int) : heldP m (donePl l pid no) = !belowP l m pid no := by
  rw [Bool.eq_iff_iff, Bool.not_eq_true', belowP_false]
  unfold heldP
  rw [List.any_eq_true]
  constructor
  · rintro ⟨p, hp, h⟩
    obtain ⟨i, hi, g, hg, h1, h2, rfl⟩ := donePl_mem.1 hp
    rw [markAt_nat (by omega)] at h
    exact ⟨i, hi, by omega, g, hg, h1, h2, by simpa using h⟩
  · rintro ⟨i, hi, him, g, hg, h1, h2, h3⟩
    exact ⟨_, donePl_mem.2 ⟨i, hi, g, hg, h1, h2, rfl⟩, by rw [markAt_nat him]; simpa using h3⟩
theorem places_whole {l : List View} {T : List (List Pl)} {c : List Int} (h : Places l T) (hc : c.length = l.length) : WholeM l c ↔ ∀ ps ∈ T, goodP c ps = true := by
  constructor
  · rintro ⟨h1, h2⟩ ps hps
    unfold goodP
    rcases h.of ps hps with ⟨pid, no, rfl⟩ | ⟨i, hi, g, hg, rfl⟩
    · rw [held_done hc, Bool.not_not]
      cases hb : belowP l c pid no
      · simp only [Bool.false_or, List.all_eq_true]
        intro p hp
        obtain ⟨i, hi, g, hg, e1, e2, rfl⟩ := donePl_mem.1 hp
        rw [markAt_nat (by omega)]
        have := h1 i hi (by omega) g hg (by rw [e1, e2]; exact hb)
        simpa using this
      · rfl
    · have := h2 i hi (by omega) g hg
      simp only [heldP, List.any_cons, List.any_nil, Bool.or_false, List.all_cons, List.all_nil, Bool.and_true]
      rw [markAt_nat (by omega)]
      by_cases hl : c[i] ≤ g.last
      · simp [hl, this hl]
      · simp [hl]
  · intro hall
    refine ⟨fun i hi him g hg hb => ?_, fun i hi him g hg hl => ?_⟩
    · have := hall _ (h.done i hi g hg)
      unfold goodP at this
      rw [held_done hc, hb] at this
      simp only [Bool.not_false, Bool.not_true, Bool.false_or, List.all_eq_true] at this
      have := this _ (donePl_mem.2 ⟨i, hi, g, hg, rfl, rfl, rfl⟩)
      rw [markAt_nat him] at this
      simpa using this
    · have := hall _ (h.gone i hi g hg)
      simp only [goodP, heldP, List.any_cons, List.any_nil, Bool.or_false, List.all_cons, List.all_nil, Bool.and_true] at this
      rw [markAt_nat him] at this
      simpa [hl] using this

/-- Marks lowered by the places of one transaction. -/
def lowPl (m : List Int) (p : Pl) : List Int := m.set p.view.toNat (minI (markAt m p) p.first)
def lowPs (m : List Int) (ps : List Pl) : List Int := ps.foldl lowPl m
theorem lowPl_len (m : List Int) (p : Pl) : (lowPl m p).length = m.length := by simp [lowPl]
theorem lowPs_len : ∀ (ps : List Pl) (m : List Int), (lowPs m ps).length = m.length
  | [], _ => rfl
  | p :: ps, m => by
    show (lowPs (lowPl m p) ps).length = _
    rw [lowPs_len ps, lowPl_len]
theorem lowPl_le (m : List Int) (p : Pl) : PW (lowPl m p) m := by
  refine ⟨lowPl_len m p, fun i hi hi' => ?_⟩
  simp only [lowPl, List.getElem_set]
  split
  · rename_i h
    subst h
    have : markAt m p = m[p.view.toNat] := by simp [markAt, hi']
    rw [this]
    exact minI_left _ _
  · exact Int.le_refl _
theorem lowPs_le : ∀ (ps : List Pl) (m : List Int), PW (lowPs m ps) m
  | [], m => PW.refl m
  | p :: ps, m => (lowPs_le ps (lowPl m p)).trans (lowPl_le m p)
theorem markAt_mono {a b : List Int} (h : PW a b) (p : Pl) : markAt a p ≤ markAt b p := by
  unfold markAt
  by_cases hi : p.view.toNat < a.length
  · have hb : p.view.toNat < b.length := by rw [← h.1]; exact hi
    have := h.2 _ hi hb
    simpa [List.getD_eq_getElem?_getD, hi, hb] using this
  · have hb : ¬ p.view.toNat < b.length := by rw [← h.1]; exact hi
    rw [List.getD_eq_getElem?_getD, List.getD_eq_getElem?_getD, List.getElem?_eq_none (by omega), List.getElem?_eq_none (by omega)]
    exact Int.le_refl _
theorem lowPl_at {m : List Int} {p : Pl} (h : p.view.toNat < m.length) : markAt (lowPl m p) p ≤ p.first := by
  have : markAt (lowPl m p) p = minI (markAt m p) p.first := by
    have e : markAt m p = m[p.view.toNat] := by simp [markAt, h]
    unfold lowPl
    rw [e]
    simp [markAt, h]
  rw [this]
  exact minI_right _ _
theorem lowPs_at : ∀ (ps : List Pl) (m : List Int), (∀ p ∈ ps, p.view.toNat < m.length) → ∀ p ∈ ps, markAt (lowPs m ps) p ≤ p.first
  | q :: ps, m, hr, p, hp => by
    show markAt (lowPs (lowPl m q) ps) p ≤ _
    rcases List.mem_cons.1 hp with rfl | hp
    · exact Int.le_trans (markAt_mono (lowPs_le ps _) _) (lowPl_at (hr _ (by simp)))
    · exact lowPs_at ps _ (fun x hx => by rw [lowPl_len]; exact hr x (by simp [hx])) p hp
theorem le_lowPl {c m : List Int} {p : Pl} (h : PW c m) (hc : markAt c p ≤ p.first) : PW c (lowPl m p) := by
  refine ⟨by rw [lowPl_len]; exact h.1, fun i hi hi' => ?_⟩
  simp only [lowPl, List.getElem_set]
  split
  · rename_i he
    subst he
    have h1 := markAt_mono h p
    have e : markAt c p = c[p.view.toNat] := by simp [markAt, hi]
    rw [e] at h1 hc
    exact le_minI h1 hc
  · exact h.2 i hi _
theorem le_lowPs : ∀ (ps : List Pl) {c m : List Int}, PW c m → (∀ p ∈ ps, markAt c p ≤ p.first) → PW c (lowPs m ps)
  | [], c, m, h, _ => h
  | p :: ps, c, m, h, hc => le_lowPs ps (le_lowPl h (hc p (by simp))) fun q hq => hc q (by simp [hq])

/-- What holds while the marks are lowered: R is still to be looked at. -/
structure Low (l : List View) (s : List Int) (T R : List (List Pl)) (m : List Int) : Prop where
  safe : PW m s
  top : ∀ c, WholeM l c → PW c s → PW c m
  out : ∀ ps ∈ T, ps ∈ R ∨ ∀ p ∈ ps, markAt m p ≤ p.first
  sub : ∀ ps ∈ R, ps ∈ T
theorem Low.start {l : List View} {s : List Int} {T : List (List Pl)} : Low l s T T s := ⟨PW.refl s, fun c _ h => h, fun ps h => .inl h, fun ps h => h⟩
theorem Low.step {l : List View} {s m : List Int} {T R R' : List (List Pl)} {ps : List Pl} (hT : Places l T) (hs : s.length = l.length) (h : Low l s T R m) (hps : ps ∈ R) (hh : heldP m ps = true) (hR : ∀ x ∈ R, x = ps ∨ x ∈ R') (hR' : ∀ x ∈ R', x ∈ R) : Low l s T R' (lowPs m ps) := by
  have hml : m.length = l.length := by rw [h.safe.1, hs]
  have hrng : ∀ p ∈ ps, p.view.toNat < m.length := fun p hp => by
    obtain ⟨i, hi, e⟩ := hT.range ps (h.sub ps hps) p hp
    rw [e]; simp; omega
  have hle := lowPs_le ps m
  refine ⟨hle.trans h.safe, fun c hw hcs => ?_, fun x hx => ?_, fun x hx => h.sub x (hR' x hx)⟩
  · have hcm := h.top c hw hcs
    refine le_lowPs ps hcm ?_
    have hcl : c.length = l.length := by rw [hcm.1, hml]
    have hg := (places_whole hT hcl).1 hw ps (h.sub ps hps)
    have hhc : heldP c ps = true := by
      unfold heldP at hh ⊢
      rw [List.any_eq_true] at hh ⊢
      obtain ⟨p, hp, hd⟩ := hh
      have := markAt_mono hcm p
      simp at hd
      exact ⟨p, hp, by simp; omega⟩
    unfold goodP at hg
    rw [hhc] at hg
    simp only [Bool.not_true, Bool.false_or, List.all_eq_true] at hg
    exact fun p hp => by simpa using hg p hp
  · rcases h.out x hx with hx | hx
    · rcases hR x hx with rfl | hx
      · exact .inr (lowPs_at _ m hrng)
      · exact .inl hx
    · exact .inr fun p hp => Int.le_trans (markAt_mono hle p) (hx p hp)
theorem Low.fin {l : List View} {s m : List Int} {T R : List (List Pl)} (hT : Places l T) (hs : s.length = l.length) (h : Low l s T R m) (hR : ∀ ps ∈ R, heldP m ps = false) : IsCut l s m := by
  have hml : m.length = l.length := by rw [h.safe.1, hs]
  refine ⟨hml, (places_whole hT hml).2 fun ps hps => ?_, h.safe, h.top⟩
  unfold goodP
  rcases h.out ps hps with hx | hx
  · rw [hR ps hx]; rfl
  · rw [Bool.or_eq_true, List.all_eq_true]
    exact .inr fun p hp => by simpa using hx p hp
end Go.Wm

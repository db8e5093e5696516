/-
  Comparing, the least of some. Conditions: that what is handed in reads as data.
-/
import Derived.Test.YtbhgbfhgdccghaaGreatP1
set_option linter.all false
namespace Go.Wm
open Go.RowKit Go.Proofs
attribute [local irreducible] RG CG EG WA Loc Det Alc CT Exit.then Exit.inBlock Code.wp bodyPost
set_option maxHeartbeats 400000 in
theorem isNaNInt_ct {k : PH} (x : Int) : CT Tryz.prog 103 #[.int .i64 x] k (fun _ v => v = .bool false) := by
  refine ct_of_body (l := [_]) Tryz.func103 rfl Tryz.ntmps103 (by simp) (fun _ _ _ _ h => h) fun F hF0 hFm => ?_
  repeat (first | refine cg_seq ?_ | refine cg_region ?_ | refine rg_nil ?_ | refine eg_then ?_ | refine qsp ?_ | refine cg_ret ?_)
  refine eg_return rfl rfl ?_
  simp
set_option maxHeartbeats 400000 in
theorem isNaNStr_ct {k : PH} (x : ByteArray) : CT Tryz.prog 116 #[.string x] k (fun _ v => v = .bool false) := by
  refine ct_of_body (l := [_]) Tryz.func116 rfl Tryz.ntmps116 (by simp) (fun _ _ _ _ h => h) fun F hF0 hFm => ?_
  repeat (first | refine cg_seq ?_ | refine cg_region ?_ | refine rg_nil ?_ | refine eg_then ?_ | refine qsp ?_ | refine cg_ret ?_)
  refine eg_return rfl rfl ?_
  simp
theorem list_gt {a b : List UInt8} (h1 : ¬ a < b) (h2 : a ≠ b) : b < a := by
  have := List.not_lt.1 h1
  rcases List.le_iff_lt_or_eq.1 this with h | h
  · exact h
  · exact absurd h.symm h2
def cmpInt (a b : Int) : Int := if a < b then -1 else if b < a then 1 else 0
def cmpStr (a b : ByteArray) : Int := if a.data.toList < b.data.toList then -1 else if b.data.toList < a.data.toList then 1 else 0
set_option maxHeartbeats 400000 in
theorem compareInt_ct {k : PH} (a b : Int) : CT Tryz.prog 66 #[.int .i64 a, .int .i64 b] k (fun _ v => v = .int .i64 (cmpInt a b)) := by
  refine ct_of_body (l := [_, _]) Tryz.func66 rfl Tryz.ntmps66 (by simp) (fun _ _ _ _ h => h) fun F hF0 hFm => ?_
  repeat (first | refine cg_seq ?_ | refine cg_region ?_ | refine rg_nil ?_ | refine eg_then ?_ | refine qsp ?_)
  refine rs rfl rfl (loc_call_is rfl rfl rfl rfl (isNaNInt_ct a)) ?_
  repeat (first | refine cg_seq ?_ | refine cg_region ?_ | refine rg_nil ?_ | refine eg_then ?_ | refine qsp ?_)
  refine rs rfl rfl (loc_call_is rfl rfl rfl rfl (isNaNInt_ct b)) ?_
  repeat (first | refine cg_seq ?_ | refine cg_region ?_ | refine rg_nil ?_ | refine eg_then ?_ | refine qsp ?_ | refine cg_cond_false rfl ?_ | refine cg_skip ?_)
  refine cg_cond rfl (fun h => ?_) (fun h => ?_)
  · repeat (first | refine cg_seq ?_ | refine cg_region ?_ | refine rg_nil ?_ | refine eg_then ?_ | refine qsp ?_ | refine cg_ret ?_ | refine eg_then_ret ?_)
    refine eg_return rfl rfl ?_
    have : a < b := by simpa using h
    simp [cmpInt, this]
  · repeat (first | refine cg_seq ?_ | refine cg_region ?_ | refine rg_nil ?_ | refine eg_then ?_ | refine qsp ?_ | refine cg_skip ?_)
    have h1 : ¬ a < b := by simpa using h
    refine cg_cond rfl (fun h => ?_) (fun h => ?_)
    · repeat (first | refine cg_seq ?_ | refine cg_region ?_ | refine rg_nil ?_ | refine eg_then ?_ | refine qsp ?_ | refine cg_ret ?_ | refine eg_then_ret ?_)
      refine eg_return rfl rfl ?_
      have : b < a := by simpa using h
      simp [cmpInt, this, h1]
    · repeat (first | refine cg_seq ?_ | refine cg_region ?_ | refine rg_nil ?_ | refine eg_then ?_ | refine qsp ?_ | refine cg_skip ?_ | refine cg_ret ?_)
      refine eg_return rfl rfl ?_
      have h2 : ¬ b < a := by simpa using h
      simp [cmpInt, h2, h1]
set_option maxHeartbeats 400000 in
theorem compareStr_ct {k : PH} (a b : ByteArray) : CT Tryz.prog 108 #[.string a, .string b] k (fun _ v => v = .int .i64 (cmpStr a b)) := by
  refine ct_of_body (l := [_, _]) Tryz.func108 rfl Tryz.ntmps108 (by simp) (fun _ _ _ _ h => h) fun F hF0 hFm => ?_
  repeat (first | refine cg_seq ?_ | refine cg_region ?_ | refine rg_nil ?_ | refine eg_then ?_ | refine qsp ?_)
  refine rs rfl rfl (loc_call_is rfl rfl rfl rfl (isNaNStr_ct a)) ?_
  repeat (first | refine cg_seq ?_ | refine cg_region ?_ | refine rg_nil ?_ | refine eg_then ?_ | refine qsp ?_)
  refine rs rfl rfl (loc_call_is rfl rfl rfl rfl (isNaNStr_ct b)) ?_
  repeat (first | refine cg_seq ?_ | refine cg_region ?_ | refine rg_nil ?_ | refine eg_then ?_ | refine qsp ?_ | refine cg_cond_false rfl ?_ | refine cg_skip ?_)
  refine cg_cond rfl (fun h => ?_) (fun h => ?_)
  · repeat (first | refine cg_seq ?_ | refine cg_region ?_ | refine rg_nil ?_ | refine eg_then ?_ | refine qsp ?_ | refine cg_ret ?_ | refine eg_then_ret ?_)
    refine eg_return rfl rfl ?_
    have : a.data.toList < b.data.toList := of_decide_eq_true h
    unfold cmpStr
    rw [if_pos this]
  · have h1 : ¬ a.data.toList < b.data.toList := of_decide_eq_false h
    repeat (first | refine cg_seq ?_ | refine cg_region ?_ | refine rg_nil ?_ | refine eg_then ?_ | refine qsp ?_ | refine cg_skip ?_)
    refine cg_cond rfl (fun h => ?_) (fun h => ?_)
    · repeat (first | refine cg_seq ?_ | refine cg_region ?_ | refine rg_nil ?_ | refine eg_then ?_ | refine qsp ?_ | refine cg_ret ?_ | refine eg_then_ret ?_)
      refine eg_return rfl rfl ?_
      have : b.data.toList < a.data.toList := by
        simp only [Bool.not_eq_true', Bool.or_eq_false_iff, decide_eq_false_iff_not] at h
        exact list_gt h.1 (fun e => h.2 (ByteArray.ext (Array.toList_inj.1 e)))
      unfold cmpStr
      rw [if_neg h1, if_pos this]
    · repeat (first | refine cg_seq ?_ | refine cg_region ?_ | refine rg_nil ?_ | refine eg_then ?_ | refine qsp ?_ | refine cg_skip ?_ | refine cg_ret ?_)
      refine eg_return rfl rfl ?_
      have h2 : ¬ b.data.toList < a.data.toList := by
        simp only [Bool.not_eq_false', Bool.or_eq_true, decide_eq_true_eq] at h
        rcases h with h | h
        · exact absurd h h1
        · subst h; exact h1
      unfold cmpStr
      rw [if_neg h1, if_neg h2]
/-- The first that is not 0, or 0. -/
def orInt : List Int → Int
  | [] => 0
  | x :: r => if x ≠ 0 then x else orInt r
theorem orInt_drop {l : List Int} : ∀ i, (∀ x ∈ l.take i, x = 0) → orInt l = orInt (l.drop i) := by
  induction l with
  | nil => intro i _; simp
  | cons x r ih =>
    intro i h
    cases i with
    | zero => rfl
    | succ i =>
      have h0 : x = 0 := h x (by simp)
      rw [List.drop_succ_cons, ← ih i (fun y hy => h y (by simp [hy]))]
      simp [orInt, h0]
set_option maxHeartbeats 400000 in
theorem or_ct {k : PH} {a : Option Addr} {c : Nat} {l : List Int} (hl : Sl tInt k a c l) : CT Tryz.prog 64 #[.slice a l.length c] k (fun _ v => v = .int .i64 (orInt l)) := by
  refine ct_of_body (l := [_]) Tryz.func64 rfl Tryz.ntmps64 (by simp) (fun _ _ _ _ h => h) fun F hF0 hFm => ?_
  have b1 := hl.cap; have b2 := hl.max; unfold maxLen at b2
  repeat (first | refine cg_seq ?_ | refine cg_region ?_ | refine rg_nil ?_ | refine eg_then ?_ | refine qsp ?_ | refine qsn ?_ | refine cg_block ?_)
  refine cg_loop (fun (i : Nat) e k' => k' = k ∧ i ≤ l.length ∧ (∀ x ∈ l.take i, x = 0) ∧ e = [(3, .is (.int .i64 0)), (6, .is (.slice a l.length c)), (7, .is (.int .i64 (l.length : Int))), (8, .is (.int .i64 (i : Int)))])
    (fun i => l.length - i) 0 ⟨rfl, Nat.zero_le _, by simp, rfl⟩ ⟨rfl, rfl, rfl, rfl, trivial⟩ ?_
  rintro i e k1 ⟨rfl, hi, hz, rfl⟩
  repeat (first | refine cg_seq ?_ | refine cg_region ?_ | refine rg_nil ?_ | refine eg_then ?_ | refine qsp ?_)
  refine cg_cond rfl (fun h => ?_) (fun h => ?_)
  · have hlt : i < l.length := by simpa using h
    obtain ⟨bx, ox, cx, rfl, ⟨rfl, _⟩, hcx⟩ := hl.el i l[i] (List.getElem?_eq_getElem hlt)
    repeat (first | refine cg_seq ?_ | refine cg_region ?_ | refine rg_nil ?_ | refine eg_then ?_ | refine qsp ?_ | refine qsi ?_ | refine qsl ?_ | refine cg_skip ?_ | refine cg_block ?_)
    refine cg_cond rfl (fun h => ?_) (fun h => ?_)
    · repeat (first | refine cg_seq ?_ | refine cg_region ?_ | refine rg_nil ?_ | refine eg_then ?_ | refine qsp ?_ | refine cg_ret ?_ | refine eg_then_ret ?_ | refine eg_in_ret ?_)
      refine eg_return rfl rfl ?_
      have h2 : l[i] ≠ 0 := by simpa using h
      rw [orInt_drop i hz, List.drop_eq_getElem_cons hlt]
      simp [orInt, h2]
    · repeat (first | refine cg_region ?_ | refine rg_nil ?_ | refine eg_then ?_ | refine qsp ?_ | refine qsa ?_ | refine cg_skip ?_ | refine eg_in_normal ?_)
      refine eg_again (i + 1) _ ⟨rfl, hlt, ?_, rfl⟩ (by omega) ⟨rfl, rfl, rfl, rfl, trivial⟩
      have h2 : l[i] = 0 := by simpa using h
      intro x hx
      rw [mem_take_succ hlt] at hx
      rcases hx with hx | hx
      · exact hz x hx
      · rw [hx, h2]
  · repeat (first | refine cg_seq ?_ | refine cg_region ?_ | refine rg_nil ?_ | refine eg_then ?_ | refine qsp ?_ | refine cg_ret ?_ | refine cg_exit ?_ | refine eg_then_exit ?_ | refine eg_in_exit ?_)
    refine eg_return rfl rfl ?_
    have : i = l.length := by simp at h; omega
    rw [orInt_drop i hz, this]
    simp [orInt]
/-- The first least one. -/
def minBy (cmp : Int → Int → Int) : List Int → Int
  | [] => 0
  | x :: r => r.foldl (fun m y => if cmp y m < 0 then y else m) x
set_option maxHeartbeats 400000 in
theorem minFunc_ct {k : PH} {a : Option Addr} {c : Nat} {l : List Int} (hl : Sl tInt k a c l) (hne : l ≠ []) {g : FuncId} [FnOk Tryz.prog g] {cap : Array Value} (cmp : Int → Int → Int)
    (hf : ∀ x ∈ l, ∀ y ∈ l, CT Tryz.prog g (#[] ++ [.int .i64 x, .int .i64 y].toArray ++ cap) k (fun _ v => v = .int .i64 (cmp x y))) :
    CT Tryz.prog 106 #[.slice a l.length c, .func (.func g) #[] cap] k (fun _ v => v = .int .i64 (minBy cmp l)) := by
  obtain ⟨x0, r, rfl⟩ := List.exists_cons_of_ne_nil hne
  refine ct_of_body (l := [_, _]) Tryz.func106 rfl Tryz.ntmps106 (by simp) (fun _ _ _ _ h => h) fun F hF0 hFm => ?_
  have b1 := hl.cap; have b2 := hl.max; unfold maxLen at b2
  obtain ⟨bx, ox, cx, rfl, ⟨rfl, _⟩, hcx⟩ := hl.el 0 x0 rfl
  repeat (first | refine cg_seq ?_ | refine cg_region ?_ | refine rg_nil ?_ | refine eg_then ?_ | refine qsp ?_ | refine qsn ?_ | refine qsz ?_ | refine qsl ?_ | refine cg_cond_false rfl ?_ | refine cg_skip ?_ | refine cg_block ?_)
  refine cg_loop (fun (i : Nat) e k' => k' = k ∧ 1 ≤ i ∧ i ≤ r.length + 1 ∧ e = [(0, .is (.slice (some ⟨bx, ox, none⟩) (x0 :: r).length c)), (1, .is (.func (.func g) #[] cap)), (5, .is (.int .i64 ((r.take (i - 1)).foldl (fun m y => if cmp y m < 0 then y else m) x0))), (6, .is (.int .i64 (i : Int)))])
    (fun i => r.length + 1 - i) 1 ⟨rfl, Nat.le_refl _, by omega, rfl⟩ ⟨rfl, rfl, rfl, rfl, trivial⟩ ?_
  rintro i e k1 ⟨rfl, hi1, hi, rfl⟩
  repeat (first | refine cg_seq ?_ | refine cg_region ?_ | refine rg_nil ?_ | refine eg_then ?_ | refine qsp ?_ | refine qsn ?_)
  refine cg_cond rfl (fun h => ?_) (fun h => ?_)
  · have hlt : i < (x0 :: r).length := by simp at h ⊢; omega
    obtain ⟨by', oy, cy, hb, ⟨rfl, _⟩, hcy⟩ := hl.el i (x0 :: r)[i] (List.getElem?_eq_getElem hlt)
    cases hb
    have hm : (r.take (i - 1)).foldl (fun m y => if cmp y m < 0 then y else m) x0 ∈ x0 :: r := by
      have : ∀ (l : List Int) (m : Int), m ∈ x0 :: r → (∀ y ∈ l, y ∈ x0 :: r) → l.foldl (fun m y => if cmp y m < 0 then y else m) m ∈ x0 :: r := by
        intro l
        induction l with
        | nil => intro m hm _; exact hm
        | cons y l ih =>
          intro m hm hl
          refine ih _ ?_ (fun z hz => hl z (by simp [hz]))
          show (if cmp y m < 0 then y else m) ∈ x0 :: r
          split
          · exact hl y (by simp)
          · exact hm
      exact this _ _ (by simp) (fun y hy => List.mem_cons_of_mem _ (List.mem_of_mem_take hy))
    have hstep : (r.take (i + 1 - 1)).foldl (fun m y => if cmp y m < 0 then y else m) x0 = (if cmp (x0 :: r)[i] ((r.take (i - 1)).foldl (fun m y => if cmp y m < 0 then y else m) x0) < 0 then (x0 :: r)[i] else (r.take (i - 1)).foldl (fun m y => if cmp y m < 0 then y else m) x0) := by
      obtain ⟨j, rfl⟩ : ∃ j, i = j + 1 := ⟨i - 1, by omega⟩
      simp only [Nat.add_sub_cancel, List.getElem_cons_succ]
      rw [List.take_succ_eq_append_getElem (by simp at hlt; omega), List.foldl_append]
      rfl
    generalize (r.take (i - 1)).foldl (fun m y => if cmp y m < 0 then y else m) x0 = m at hm hstep ⊢
    repeat (first | refine cg_seq ?_ | refine cg_region ?_ | refine eg_then ?_ | refine qsp ?_ | refine qsi ?_ | refine qsl ?_ | refine cg_skip ?_ | refine cg_block ?_)
    refine rs rfl rfl (loc_call_is rfl rfl rfl rfl (hf _ (List.getElem_mem hlt) _ hm)) ?_
    repeat (first | refine rg_nil ?_ | refine eg_then ?_ | refine qsp ?_)
    refine cg_cond rfl (fun h => ?_) (fun h => ?_)
    · repeat (first | refine cg_region ?_ | refine rg_nil ?_ | refine eg_then ?_ | refine qsp ?_ | refine qsa ?_ | refine qsi ?_ | refine qsl ?_ | refine eg_in_normal ?_)
      refine eg_again (i + 1) _ ⟨rfl, by omega, by simp at hlt; omega, rfl⟩ (by simp at hlt; omega) ⟨rfl, rfl, ?_, rfl, trivial⟩
      have h2 : cmp (x0 :: r)[i] m < 0 := by simpa using h
      rw [hstep, if_pos h2]
      rfl
    · repeat (first | refine cg_region ?_ | refine rg_nil ?_ | refine eg_then ?_ | refine qsp ?_ | refine qsa ?_ | refine cg_skip ?_ | refine eg_in_normal ?_)
      refine eg_again (i + 1) _ ⟨rfl, by omega, by simp at hlt; omega, rfl⟩ (by simp at hlt; omega) ⟨rfl, rfl, ?_, rfl, trivial⟩
      have h2 : ¬ cmp (x0 :: r)[i] m < 0 := by simpa using h
      rw [hstep, if_neg h2]
      rfl
  · repeat (first | refine cg_seq ?_ | refine cg_region ?_ | refine rg_nil ?_ | refine eg_then ?_ | refine qsp ?_ | refine cg_ret ?_ | refine cg_exit ?_ | refine eg_then_exit ?_ | refine eg_in_exit ?_)
    refine eg_return rfl rfl ?_
    have : i = r.length + 1 := by simp at h; omega
    rw [this]
    simp [minBy]
/-- The sharing as memory has it: its struct in block bs, whose each is in bw, how many each has in bm. -/
structure Sh (h0 k : PH) (bs bw bm : Nat) (l : List Member) (tps : List Tp) (whose many : List Int) : Prop where
  le : Le h0 k
  ns : h0 bs = none
  nw : h0 bw = none
  nm : h0 bm = none
  sw : bs ≠ bw
  sm : bs ≠ bm
  wm : bw ≠ bm
  cells : ∃ la lc ta tc, k bs = some (.cells #[.slice la l.length lc, .slice ta tps.length tc, .slice (some ⟨bw, 0, none⟩) whose.length whose.length, .slice (some ⟨bm, 0, none⟩) many.length many.length] 96 (0, 0)) ∧ Sl tMember h0 la lc l ∧ Sl tTp h0 ta tc tps
  whose : k bw = some (.cells (whose.map (Value.int .i64)).toArray 3 (0, 0))
  many : k bm = some (.cells (many.map (Value.int .i64)).toArray 3 (0, 0))
theorem Sh.up {h0 k k' : PH} {bs bw bm : Nat} {l : List Member} {tps : List Tp} {whose many : List Int} (h : Sh h0 k bs bw bm l tps whose many) (hl : Le k k') : Sh h0 k' bs bw bm l tps whose many := by
  obtain ⟨hle, n0, n1, n2, d0, d1, d2, ⟨la, lc, ta, tc, h1, h2, h3⟩, h4, h5⟩ := h
  exact ⟨hle.trans hl, n0, n1, n2, d0, d1, d2, ⟨la, lc, ta, tc, hl _ _ h1, h2, h3⟩, hl _ _ h4, hl _ _ h5⟩
theorem cells_ints {k : PH} {b : Nat} {l : List Int} (h : k b = some (.cells (l.map (Value.int .i64)).toArray 3 (0, 0))) {i : Nat} (hi : i < l.length) : Cells k b (0 + i * 1) [.int .i64 l[i]] := by
  rw [Nat.mul_one]
  refine (cells_at (vs := l.map (Value.int .i64)) h (by simp)).one ?_
  simp [hi]
/-- Who of the list wants it. -/
def wanting (l : List Member) (tp : Tp) (n : Nat) : List Int := ((List.range n).filter fun i => decide (tp.topic ∈ ((l[i]?).map (·.subs)).getD [])).map Int.ofNat
set_option maxHeartbeats 400000 in
theorem leastCmp_ct {h0 k : PH} {bs bw bm bc : Nat} {l : List Member} {tps : List Tp} {whose many : List Int} (h : Sh h0 k bs bw bm l tps whose many) (hc : k bc = some (.cells #[.pointer (some ⟨bs, 0, none⟩)] 93 (0, 0)))
    (a b : Nat) (ha : a < l.length) (hb : b < l.length) (hlm : many.length = l.length) :
    CT Tryz.prog 107 #[.int .i64 (a : Int), .int .i64 (b : Int), .pointer (some ⟨bc, 0, none⟩)] k (fun _ v => v = .int .i64 (orInt [cmpInt many[a] many[b], cmpStr l[a].id l[b].id])) := by
  obtain ⟨hle0, _, _, _, _, _, _, ⟨la, lc, ta, tc, h1, h2, h3⟩, h4, h5⟩ := h
  replace h2 := h2.le hle0
  replace h3 := h3.le hle0
  refine ct_of_body (l := [_, _, _]) Tryz.func107 rfl Tryz.ntmps107 (by simp) (fun _ _ _ _ h => h) fun F hF0 hFm => ?_
  have f0 := cells_at (vs := [.pointer (some ⟨bs, 0, none⟩)]) hc rfl
  have fs := cells_at (vs := [.slice la l.length lc, .slice ta tps.length tc, .slice (some ⟨bw, 0, none⟩) whose.length whose.length, .slice (some ⟨bm, 0, none⟩) many.length many.length]) h1 rfl
  have f3 := fs.one (i := 3) rfl
  have f0' := fs.one (i := 0) rfl
  have ma := cells_ints h5 (i := a) (by omega)
  have mb := cells_ints h5 (i := b) (by omega)
  obtain ⟨bx, ox, cx, rfl, ⟨sa, sc, oa, oc, rfl, _, _, _⟩, hcx⟩ := h2.el a l[a] (List.getElem?_eq_getElem ha)
  obtain ⟨by', oy, cy, hbb, ⟨sa', sc', oa', oc', rfl, _, _, _⟩, hcy⟩ := h2.el b l[b] (List.getElem?_eq_getElem hb)
  cases hbb
  have ga := hcx.one (i := 0) rfl
  have gb := hcy.one (i := 0) rfl
  have hba : a < many.length := by omega
  have hbb' : b < many.length := by omega
  repeat (first | refine cg_seq ?_ | refine cg_region ?_ | refine rg_nil ?_ | refine eg_then ?_ | refine qsp ?_)
  refine region_cut (by kernel_rfl) rfl ?_
  repeat (first | refine qwp ?_ | refine qwi ?_ | refine qwl ?_ | refine qwf ?_)
  refine ws rfl (loc_call_is rfl rfl rfl rfl (compareInt_ct _ _)) ?_
  repeat (first | refine qwp ?_ | refine qwi ?_ | refine qwl ?_ | refine qwf ?_)
  refine ws rfl (loc_call_is rfl rfl rfl rfl (compareStr_ct _ _)) ?_
  refine wv rfl (loc_alloc rfl (a_slice rfl rfl rfl rfl (by kernel_rfl) rfl)) ?_
  refine ws (v := .int .i64 (orInt [cmpInt many[a] many[b], cmpStr l[a].id l[b].id])) rfl (loc_elim 38 rfl rfl trivial ?_) ?_
  · rintro v k1 hle ⟨b', rfl, hb', _⟩
    refine loc_call_is rfl rfl rfl rfl (or_ct (l := [cmpInt many[a] many[b], cmpStr l[a].id l[b].id]) ?_)
    refine ⟨by simp, by simp [maxLen], by simp, by simp, fun i x hx => ?_⟩
    have hc := cells_at (vs := [.int .i64 (cmpInt many[a] many[b]), .int .i64 (cmpStr l[a].id l[b].id)]) hb' rfl
    refine ⟨b', 0, [.int .i64 x], rfl, ⟨rfl, ?_⟩, ?_⟩
    · rcases i with _ | _ | i <;> simp at hx <;> subst hx
      · unfold I64 cmpInt; split <;> (try split) <;> omega
      · unfold I64 cmpStr; split <;> (try split) <;> omega
    · rcases i with _ | _ | i <;> simp at hx <;> subst hx
      · exact hc.one (i := 0) rfl
      · exact hc.one (i := 1) rfl
  repeat (first | refine qwp ?_)
  refine wn_cut 38 rfl ?_
  repeat (first | refine eg_then ?_ | refine cg_ret ?_)
  exact eg_return rfl rfl rfl
end Go.Wm

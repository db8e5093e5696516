/-
  How what a configuration has is ordered, the program's. Conditions: none.
-/
import Derived.Test.YtgalkgidjpbiaaaGreatDat
import Derived.Test.YtgalkgidjpbiaaaGreatTypes
import Derived.Test.YtgalkgidjpbiaaaGreatCoB
import Derived.Test.YtgalkgidjpbiaaaGreatC1
import Derived.Lib.Bytealg
set_option linter.all false
namespace Go.Wm
open Go.RowKit Go.Proofs
attribute [local irreducible] RG CG EG WA Loc Det Alc CT Exit.then Exit.inBlock Code.wp bodyPost
theorem sl_flat {α : Type} {T : Ty α} {f : α → List Value} {k : PH} {b : Nat} {c : Array Value} {et : TypeId} {fr : Nat × Nat} {xs : List α} (h : k b = some (.cells c et fr)) (hc : c.toList = xs.flatMap f) (hr : ∀ x ∈ xs, T.rep k (f x) x) (hm : xs.length ≤ maxLen) : Sl T k (some ⟨b, 0, none⟩) xs.length xs :=
  sl_rows (css := xs.map f) h (by rw [hc]; simp [List.flatMap]) (by simp) (fun i cs x h1 h2 => by
    rw [List.getElem?_map, h2] at h1
    cases h1
    exact hr x (List.mem_of_getElem? h2)) hm
def cmpInt (a b : Int) : Int := if a < b then -1 else if a > b then 1 else 0
def cmpStr (a b : ByteArray) : Int := Lib.compareBytes a.data.toList b.data.toList
def orL (l : List Int) : Int := (l.find? fun n => n != 0).getD 0
def ordTopic (a b : Topic) : Int := cmpStr a.name b.name
def ordRule (a b : Rule) : Int := orL [cmpStr a.who b.who, cmpStr a.topic b.topic]
def ordRate (a b : Rate) : Int := cmpStr a.who b.who
def ordWay (a b : Way) : Int := orL [cmpInt a.fromV b.fromV, cmpInt a.toV b.toV, cmpStr a.topic b.topic]
theorem bytes_ext {a b : ByteArray} (h : a.data.toList = b.data.toList) : a = b := ByteArray.ext (Array.toList_inj.1 h)
theorem cmpBytes_cases : ∀ (a b : List UInt8), (Lib.compareBytes a b = -1 ∧ a < b) ∨ (Lib.compareBytes a b = 0 ∧ a = b) ∨ (Lib.compareBytes a b = 1 ∧ ¬ a < b ∧ a ≠ b)
  | [], [] => .inr (.inl ⟨rfl, rfl⟩)
  | [], b :: ys => .inl ⟨rfl, by simp⟩
  | a :: xs, [] => .inr (.inr ⟨rfl, by simp, by simp⟩)
  | a :: xs, b :: ys => by
    unfold Lib.compareBytes
    by_cases h : a < b
    · rw [if_pos h]
      exact .inl ⟨rfl, by rw [List.cons_lt_cons_iff]; exact .inl h⟩
    · rw [if_neg h]
      by_cases h2 : b < a
      · rw [if_pos h2]
        have hne : a ≠ b := by rintro rfl; exact h h2
        refine .inr (.inr ⟨rfl, ?_, by simp [hne]⟩)
        rw [List.cons_lt_cons_iff]
        rintro (h3 | ⟨h3, _⟩)
        · exact h h3
        · exact hne h3
      · rw [if_neg h2]
        have he : a = b := by
          apply UInt8.le_antisymm
          · exact UInt8.not_lt.1 h2
          · exact UInt8.not_lt.1 h
        subst he
        rcases cmpBytes_cases xs ys with ⟨h3, h4⟩ | ⟨h3, h4⟩ | ⟨h3, h4, h5⟩
        · exact .inl ⟨h3, by rw [List.cons_lt_cons_iff]; exact .inr ⟨rfl, h4⟩⟩
        · exact .inr (.inl ⟨h3, by rw [h4]⟩)
        · refine .inr (.inr ⟨h3, ?_, by simp [h5]⟩)
          rw [List.cons_lt_cons_iff]
          rintro (h6 | ⟨_, h6⟩)
          · exact h h6
          · exact h4 h6
theorem orL3 (x y z : Int) : orL [x, y, z] = if x ≠ 0 then x else if y ≠ 0 then y else z := by
  by_cases hx : x = 0 <;> by_cases hy : y = 0 <;> by_cases hz : z = 0 <;> simp [orL, hx, hy, hz]
theorem cmpInt_cases (a b : Int) : (cmpInt a b = -1 ∧ a < b) ∨ (cmpInt a b = 0 ∧ a = b) ∨ (cmpInt a b = 1 ∧ b < a) := by
  unfold cmpInt
  by_cases h : a < b
  · exact .inl ⟨by simp [h], h⟩
  · by_cases h2 : b < a
    · exact .inr (.inr ⟨by simp [h, h2], h2⟩)
    · exact .inr (.inl ⟨by simp [h, h2], by omega⟩)
theorem orL2 (x y : Int) : orL [x, y] = if x ≠ 0 then x else y := by
  by_cases hx : x = 0 <;> by_cases hy : y = 0 <;> simp [orL, hx, hy]
theorem isNaNI_ct {k : PH} (a : Int) : CT Tryz.prog 225 #[.int .i64 a] k (fun _ v => v = .bool false) := by
  refine ct_of_body (l := [_]) Tryz.func225 rfl Tryz.ntmps225 (by simp) (fun _ _ _ _ h => h) fun F hF0 hFm => ?_
  repeat (first | refine cg_seq ?_ | refine cg_region ?_ | refine rg_nil ?_ | refine eg_then ?_ | refine qsp ?_ | refine cg_ret ?_)
  refine eg_return rfl rfl ?_
  simp
set_option maxHeartbeats 400000 in
theorem cmpInt_ct {k : PH} (a b : Int) : CT Tryz.prog 161 #[.int .i64 a, .int .i64 b] k (fun _ v => v = .int .i64 (cmpInt a b)) := by
  refine ct_of_body (l := [_, _]) Tryz.func161 rfl Tryz.ntmps161 (by simp) (fun _ _ _ _ h => h) fun F hF0 hFm => ?_
  repeat (first | refine cg_seq ?_ | refine cg_region ?_ | refine rg_nil ?_ | refine eg_then ?_ | refine qsp ?_)
  refine rs rfl rfl (loc_call_is rfl rfl rfl rfl (isNaNI_ct a)) ?_
  repeat (first | refine cg_seq ?_ | refine cg_region ?_ | refine rg_nil ?_ | refine eg_then ?_ | refine qsp ?_)
  refine rs rfl rfl (loc_call_is rfl rfl rfl rfl (isNaNI_ct b)) ?_
  repeat (first | refine cg_seq ?_ | refine cg_region ?_ | refine rg_nil ?_ | refine eg_then ?_ | refine qsp ?_ | refine cg_cond_false rfl ?_ | refine cg_skip ?_)
  refine cg_cond rfl (fun h => ?_) (fun h => ?_)
  · repeat (first | refine cg_seq ?_ | refine cg_region ?_ | refine rg_nil ?_ | refine eg_then ?_ | refine qsp ?_ | refine cg_ret ?_ | refine eg_then_ret ?_)
    refine eg_return rfl rfl ?_
    have h : a < b := by simpa using h
    simp [cmpInt, h]
  · repeat (first | refine cg_seq ?_ | refine cg_region ?_ | refine rg_nil ?_ | refine eg_then ?_ | refine qsp ?_ | refine cg_skip ?_)
    have h : ¬ a < b := by simp at h; omega
    refine cg_cond rfl (fun h2 => ?_) (fun h2 => ?_)
    · repeat (first | refine cg_seq ?_ | refine cg_region ?_ | refine rg_nil ?_ | refine eg_then ?_ | refine qsp ?_ | refine cg_ret ?_ | refine eg_then_ret ?_)
      refine eg_return rfl rfl ?_
      have h2 : b < a := by simp at h2; omega
      simp [cmpInt, h, h2]
    · repeat (first | refine cg_seq ?_ | refine cg_region ?_ | refine rg_nil ?_ | refine eg_then ?_ | refine qsp ?_ | refine cg_skip ?_ | refine cg_ret ?_)
      refine eg_return rfl rfl ?_
      have h2 : ¬ b < a := by simp at h2; omega
      simp [cmpInt, h, h2]
set_option maxHeartbeats 400000 in
theorem or_ct {k : PH} {a : Option Addr} {c : Nat} {l : List Int} (hl : Sl tInt k a c l) : CT Tryz.prog 159 #[.slice a l.length c] k (fun _ v => v = .int .i64 (orL l)) := by
  refine ct_of_body (l := [_]) Tryz.func159 rfl Tryz.ntmps159 (by simp) (fun _ _ _ _ h => h) fun F hF0 hFm => ?_
  have b1 := hl.cap; have b2 := hl.max; unfold maxLen at b2
  repeat (first | refine cg_seq ?_ | refine cg_region ?_ | refine rg_nil ?_ | refine eg_then ?_ | refine qsp ?_ | refine qsn ?_ | refine cg_block ?_)
  refine cg_loop (fun (i : Nat) e k' => k' = k ∧ i ≤ l.length ∧ (∀ j, (h : j < l.length) → j < i → l[j] = 0) ∧ e = [(3, .is (.int .i64 0)), (6, .is (.slice a l.length c)), (7, .is (.int .i64 (l.length : Int))), (8, .is (.int .i64 (i : Int)))])
    (fun i => l.length - i) 0 ⟨rfl, Nat.zero_le _, fun j _ hj => by omega, rfl⟩ ⟨rfl, rfl, rfl, rfl, trivial⟩ ?_
  rintro i e k1 ⟨rfl, hi, hno, rfl⟩
  repeat (first | refine cg_seq ?_ | refine cg_region ?_ | refine rg_nil ?_ | refine eg_then ?_ | refine qsp ?_)
  refine cg_cond rfl (fun h => ?_) (fun h => ?_)
  · have hlt : i < l.length := by simpa using h
    obtain ⟨bx, ox, cx, rfl, ⟨rfl, hok⟩, hcx⟩ := hl.el i l[i] (List.getElem?_eq_getElem hlt)
    repeat (first | refine cg_seq ?_ | refine cg_region ?_ | refine rg_nil ?_ | refine eg_then ?_ | refine qsp ?_ | refine qsi ?_ | refine qsl ?_ | refine cg_skip ?_ | refine cg_block ?_)
    refine cg_cond rfl (fun h => ?_) (fun h => ?_)
    · repeat (first | refine cg_seq ?_ | refine cg_region ?_ | refine rg_nil ?_ | refine eg_then ?_ | refine qsp ?_ | refine cg_ret ?_ | refine eg_then_ret ?_ | refine eg_in_ret ?_)
      refine eg_return rfl rfl ?_
      have hf : l.find? (fun n => n != 0) = some l[i] := by
        rw [List.find?_eq_some_iff_getElem]
        refine ⟨h, i, hlt, rfl, fun j hj => ?_⟩
        simp [hno j (by omega) hj]
      simp [orL, hf]
    · repeat (first | refine cg_region ?_ | refine rg_nil ?_ | refine eg_then ?_ | refine qsp ?_ | refine qsa ?_ | refine cg_skip ?_ | refine eg_in_normal ?_)
      refine eg_again (i + 1) _ ⟨rfl, hlt, fun j hj hji => ?_, rfl⟩ (by omega) ⟨rfl, rfl, rfl, rfl, trivial⟩
      by_cases e : j = i
      · subst e; simpa using h
      · exact hno j hj (by omega)
  · repeat (first | refine cg_seq ?_ | refine cg_region ?_ | refine rg_nil ?_ | refine eg_then ?_ | refine qsp ?_ | refine cg_ret ?_ | refine cg_exit ?_ | refine eg_then_exit ?_ | refine eg_in_exit ?_)
    refine eg_return rfl rfl ?_
    have hin : i = l.length := by simp at h; omega
    have hf : l.find? (fun n => n != 0) = none := by
      rw [List.find?_eq_none]
      intro x hx
      obtain ⟨j, hj, rfl⟩ := List.getElem_of_mem hx
      simp [hno j hj (by omega)]
    simp [orL, hf]
theorem isNaNS_ct {k : PH} (a : ByteArray) : CT Tryz.prog 238 #[.string a] k (fun _ v => v = .bool false) := by
  refine ct_of_body (l := [_]) Tryz.func238 rfl Tryz.ntmps238 (by simp) (fun _ _ _ _ h => h) fun F hF0 hFm => ?_
  repeat (first | refine cg_seq ?_ | refine cg_region ?_ | refine rg_nil ?_ | refine eg_then ?_ | refine qsp ?_ | refine cg_ret ?_)
  refine eg_return rfl rfl ?_
  simp
theorem cmpStr_vals (a b : ByteArray) : (cmpStr a b = -1 ∧ a.data.toList < b.data.toList) ∨ (cmpStr a b = 0 ∧ a = b) ∨ (cmpStr a b = 1 ∧ ¬ a.data.toList < b.data.toList ∧ a ≠ b) := by
  rcases cmpBytes_cases a.data.toList b.data.toList with h | ⟨h1, h2⟩ | ⟨h1, h2, h3⟩
  · exact .inl h
  · exact .inr (.inl ⟨h1, bytes_ext h2⟩)
  · exact .inr (.inr ⟨h1, h2, fun e => h3 (by rw [e])⟩)
set_option maxHeartbeats 400000 in
theorem cmpStrC_ct {k : PH} (a b : ByteArray) : CT Tryz.prog 200 #[.string a, .string b] k (fun _ v => v = .int .i64 (cmpStr a b)) := by
  refine ct_of_body (l := [_, _]) Tryz.func200 rfl Tryz.ntmps200 (by simp) (fun _ _ _ _ h => h) fun F hF0 hFm => ?_
  repeat (first | refine cg_seq ?_ | refine cg_region ?_ | refine rg_nil ?_ | refine eg_then ?_ | refine qsp ?_)
  refine rs rfl rfl (loc_call_is rfl rfl rfl rfl (isNaNS_ct a)) ?_
  repeat (first | refine cg_seq ?_ | refine cg_region ?_ | refine rg_nil ?_ | refine eg_then ?_ | refine qsp ?_)
  refine rs rfl rfl (loc_call_is rfl rfl rfl rfl (isNaNS_ct b)) ?_
  repeat (first | refine cg_seq ?_ | refine cg_region ?_ | refine rg_nil ?_ | refine eg_then ?_ | refine qsp ?_ | refine cg_cond_false rfl ?_ | refine cg_skip ?_)
  cases q1 : decide (a.data.toList < b.data.toList)
  · repeat (first | refine cg_seq ?_ | refine cg_region ?_ | refine rg_nil ?_ | refine eg_then ?_ | refine qsp ?_ | refine cg_cond_false rfl ?_ | refine cg_skip ?_)
    cases q2 : decide (a = b)
    · rw [q1]
      repeat (first | refine cg_seq ?_ | refine cg_region ?_ | refine rg_nil ?_ | refine eg_then ?_ | refine qsp ?_ | refine cg_cond_true rfl ?_ | refine cg_ret ?_ | refine eg_then_ret ?_)
      refine eg_return rfl rfl ?_
      rcases cmpStr_vals a b with ⟨h1, h2⟩ | ⟨h1, h2⟩ | ⟨h1, h2, h3⟩
      · simp [h2] at q1
      · simp [h2] at q2
      · rw [h1]
    · rw [q1]
      repeat (first | refine cg_seq ?_ | refine cg_region ?_ | refine rg_nil ?_ | refine eg_then ?_ | refine qsp ?_ | refine cg_cond_false rfl ?_ | refine cg_skip ?_ | refine cg_ret ?_)
      refine eg_return rfl rfl ?_
      rcases cmpStr_vals a b with ⟨h1, h2⟩ | ⟨h1, h2⟩ | ⟨h1, h2, h3⟩
      · simp [h2] at q1
      · rw [h1]
      · simp [h3] at q2
  · repeat (first | refine cg_seq ?_ | refine cg_region ?_ | refine rg_nil ?_ | refine eg_then ?_ | refine qsp ?_ | refine cg_cond_true rfl ?_ | refine cg_ret ?_ | refine eg_then_ret ?_)
    refine eg_return rfl rfl ?_
    rcases cmpStr_vals a b with ⟨h1, h2⟩ | ⟨h1, h2⟩ | ⟨h1, h2, h3⟩
    · rw [h1]
    · exact absurd (of_decide_eq_true q1) (by rw [h2]; exact List.lt_irrefl _)
    · simp [h2] at q1
set_option maxHeartbeats 400000 in
theorem topicsOrd_ct {k : PH} (a b : Topic) : CT Tryz.prog 112 #[.agg a.vs.toArray, .agg b.vs.toArray] k (fun _ v => v = .int .i64 (ordTopic a b)) := by
  refine ct_of_body (l := [_, _]) Tryz.func112 rfl Tryz.ntmps112 (by simp) (fun _ _ _ _ h => h) fun F hF0 hFm => ?_
  repeat (first | refine cg_seq ?_ | refine cg_region ?_)
  refine rb rfl rfl rfl rfl (a_box rfl rfl) ?_; intro b2 k2 hb2 hN2 hle2 hk2
  skip
  refine rb rfl rfl rfl rfl (a_box rfl rfl) ?_; intro b3 k3 hb3 hN3 hle3 hk3
  obtain ⟨p0, p1, p2, p3⟩ := Topic.parts ((cells_at (vs := a.vs) hk2 rfl).le hle3)
  obtain ⟨q0, q1, q2, q3⟩ := Topic.parts (cells_at (vs := b.vs) hk3 rfl)
  repeat (first | refine cg_seq ?_ | refine cg_region ?_ | refine rg_nil ?_ | refine eg_then ?_ | refine qsp ?_ | refine qsl ?_ | refine qsf ?_)
  refine rs rfl rfl (loc_call_is rfl rfl rfl rfl (cmpStrC_ct a.name b.name)) ?_
  repeat (first | refine rg_nil ?_ | refine eg_then ?_ | refine qsp ?_ | refine cg_ret ?_)
  exact eg_return rfl rfl rfl
set_option maxHeartbeats 400000 in
theorem ratesOrd_ct {k : PH} (a b : Rate) : CT Tryz.prog 119 #[.agg a.vs.toArray, .agg b.vs.toArray] k (fun _ v => v = .int .i64 (ordRate a b)) := by
  refine ct_of_body (l := [_, _]) Tryz.func119 rfl Tryz.ntmps119 (by simp) (fun _ _ _ _ h => h) fun F hF0 hFm => ?_
  repeat (first | refine cg_seq ?_ | refine cg_region ?_)
  refine rb rfl rfl rfl rfl (a_box rfl rfl) ?_; intro b2 k2 hb2 hN2 hle2 hk2
  skip
  refine rb rfl rfl rfl rfl (a_box rfl rfl) ?_; intro b3 k3 hb3 hN3 hle3 hk3
  obtain ⟨p0, p1, p2⟩ := Rate.parts ((cells_at (vs := a.vs) hk2 rfl).le hle3)
  obtain ⟨q0, q1, q2⟩ := Rate.parts (cells_at (vs := b.vs) hk3 rfl)
  repeat (first | refine cg_seq ?_ | refine cg_region ?_ | refine rg_nil ?_ | refine eg_then ?_ | refine qsp ?_ | refine qsl ?_ | refine qsf ?_)
  refine rs rfl rfl (loc_call_is rfl rfl rfl rfl (cmpStrC_ct a.who b.who)) ?_
  repeat (first | refine rg_nil ?_ | refine eg_then ?_ | refine qsp ?_ | refine cg_ret ?_)
  exact eg_return rfl rfl rfl
set_option maxHeartbeats 400000 in
theorem rulesOrd_ct {k : PH} (a b : Rule) : CT Tryz.prog 115 #[.agg a.vs.toArray, .agg b.vs.toArray] k (fun _ v => v = .int .i64 (ordRule a b)) := by
  refine ct_of_body (l := [_, _]) Tryz.func115 rfl Tryz.ntmps115 (by simp) (fun _ _ _ _ h => h) fun F hF0 hFm => ?_
  repeat (first | refine cg_seq ?_ | refine cg_region ?_)
  refine rb rfl rfl rfl rfl (a_box rfl rfl) ?_; intro b2 k2 hb2 hN2 hle2 hk2
  skip
  refine rb rfl rfl rfl rfl (a_box rfl rfl) ?_; intro b3 k3 hb3 hN3 hle3 hk3
  have c2 := (cells_at (vs := a.vs) hk2 rfl).le hle3
  have c3 := cells_at (vs := b.vs) hk3 rfl
  obtain ⟨p0, p1, p2⟩ := Rule.parts c2
  obtain ⟨p3, p4, p5⟩ := Rule.parts c3
  repeat (first | refine cg_seq ?_ | refine rg_nil ?_ | refine eg_then ?_ | refine qsp ?_)
  refine cg_fresh 10 [] (by kernel_rfl) (by kernel_rfl) rfl rfl rfl ?_
  dsimp only [List.take]
  repeat (first | refine qfl ?_ | refine qff ?_)
  refine fs_s rfl (loc_call_is rfl rfl rfl rfl (cmpStrC_ct a.who b.who)) rfl ?_
  repeat (first | refine qfl ?_ | refine qff ?_)
  refine fs_s rfl (loc_call_is rfl rfl rfl rfl (cmpStrC_ct a.topic b.topic)) rfl ?_
  skip
  refine fs_nil ?_
  intro k9 vs hle9 _ _ _
  dsimp only [List.drop, nameE, nameP]
  refine rb rfl rfl rfl rfl (a_slice (cells := [cmpStr a.who b.who, cmpStr a.topic b.topic].flatMap fun n => [Value.int .i64 n]) rfl rfl rfl rfl (by kernel_rfl) rfl) ?_; intro b11 k11 hb11 hN11 hle11 hk11
  have hsl : Sl tInt k11 (some ⟨b11, 0, none⟩) 2 [cmpStr a.who b.who, cmpStr a.topic b.topic] := sl_flat (xs := [cmpStr a.who b.who, cmpStr a.topic b.topic]) hk11 rfl (fun x hx => ⟨rfl, by
      have e1 := cmpStr_vals a.who b.who
      have e2 := cmpStr_vals a.topic b.topic
      unfold I64
      simp only [List.mem_cons, List.not_mem_nil, or_false] at hx
      rcases hx with rfl | rfl <;> omega⟩) (by simp [maxLen])
  skip
  refine rs rfl rfl (loc_call_is rfl rfl rfl rfl (or_ct hsl)) ?_
  repeat (first | refine rg_nil ?_ | refine eg_then ?_ | refine qsp ?_ | refine cg_ret ?_)
  exact eg_return rfl rfl rfl
set_option maxHeartbeats 400000 in
theorem waysOrd_ct {k : PH} (a b : Way) : CT Tryz.prog 122 #[.agg a.vs.toArray, .agg b.vs.toArray] k (fun _ v => v = .int .i64 (ordWay a b)) := by
  refine ct_of_body (l := [_, _]) Tryz.func122 rfl Tryz.ntmps122 (by simp) (fun _ _ _ _ h => h) fun F hF0 hFm => ?_
  repeat (first | refine cg_seq ?_ | refine cg_region ?_)
  refine rb rfl rfl rfl rfl (a_box rfl rfl) ?_; intro b2 k2 hb2 hN2 hle2 hk2
  skip
  refine rb rfl rfl rfl rfl (a_box rfl rfl) ?_; intro b3 k3 hb3 hN3 hle3 hk3
  have c2 := (cells_at (vs := a.vs) hk2 rfl).le hle3
  have c3 := cells_at (vs := b.vs) hk3 rfl
  obtain ⟨p0, p1, p2⟩ := Way.parts c2
  obtain ⟨p3, p4, p5⟩ := Way.parts c3
  repeat (first | refine cg_seq ?_ | refine rg_nil ?_ | refine eg_then ?_ | refine qsp ?_)
  refine cg_fresh 15 [] (by kernel_rfl) (by kernel_rfl) rfl rfl rfl ?_
  dsimp only [List.take]
  repeat (first | refine qfl ?_ | refine qff ?_)
  refine fs_s rfl (loc_call_is rfl rfl rfl rfl (cmpInt_ct a.fromV b.fromV)) rfl ?_
  repeat (first | refine qfl ?_ | refine qff ?_)
  refine fs_s rfl (loc_call_is rfl rfl rfl rfl (cmpInt_ct a.toV b.toV)) rfl ?_
  repeat (first | refine qfl ?_ | refine qff ?_)
  refine fs_s rfl (loc_call_is rfl rfl rfl rfl (cmpStrC_ct a.topic b.topic)) rfl ?_
  skip
  refine fs_nil ?_
  intro k9 vs hle9 _ _ _
  dsimp only [List.drop, nameE, nameP]
  refine rb rfl rfl rfl rfl (a_slice (cells := [cmpInt a.fromV b.fromV, cmpInt a.toV b.toV, cmpStr a.topic b.topic].flatMap fun n => [Value.int .i64 n]) rfl rfl rfl rfl (by kernel_rfl) rfl) ?_; intro b11 k11 hb11 hN11 hle11 hk11
  have hsl : Sl tInt k11 (some ⟨b11, 0, none⟩) 3 [cmpInt a.fromV b.fromV, cmpInt a.toV b.toV, cmpStr a.topic b.topic] := sl_flat (xs := [cmpInt a.fromV b.fromV, cmpInt a.toV b.toV, cmpStr a.topic b.topic]) hk11 rfl (fun x hx => ⟨rfl, by
      have e1 := cmpInt_cases a.fromV b.fromV
      have e2 := cmpInt_cases a.toV b.toV
      have e3 := cmpStr_vals a.topic b.topic
      unfold I64
      simp only [List.mem_cons, List.not_mem_nil, or_false] at hx
      rcases hx with rfl | rfl | rfl <;> omega⟩) (by simp [maxLen])
  skip
  refine rs rfl rfl (loc_call_is rfl rfl rfl rfl (or_ct hsl)) ?_
  repeat (first | refine rg_nil ?_ | refine eg_then ?_ | refine qsp ?_ | refine cg_ret ?_)
  exact eg_return rfl rfl rfl
end Go.Wm

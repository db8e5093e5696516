/-
  A step's bytes, the program's. Conditions: that what is handed in reads as data.
-/
import Derived.Test.YtgalkgidjpbiaaaGreatArr3
import Derived.Test.YtgalkgidjpbiaaaGreatR6
import Derived.Test.YtgalkgidjpbiaaaGreatL1
set_option linter.all false
namespace Go.Wm
open Go.RowKit Go.Proofs
attribute [local irreducible] RG CG EG WA Loc Det Alc CT Exit.then Exit.inBlock Code.wp bodyPost
theorem sl_nilB (k : PH) : Sl tU8 k none 0 [] := ⟨by simp, by simp [maxLen], fun _ => rfl, by simp, by simp⟩
/-- What a step says, in bytes; sealed, with its length ahead. -/
def stepL (s : Step) : List Nat := bigL s.kind.toNat 1 1 ++ textL s.name ++ textL s.topic ++ varL (zigN s.a) ++ varL (zigN s.b) ++ varL (zigN s.c)
def saveL (s : Step) : List Nat := bigL (sealL (stepL s)).length 4 4 ++ sealL (stepL s)
/-- What Save hands back. -/
def SaveV (s : Step) (N : Nat) (k : PH) (v : Value) : Prop := if formS s = true then ∃ u, v = .tuple #[u, .int .i64 0] ∧ BRow N k u (saveL s) else v = .tuple #[.slice none 0 0, .int .i64 1]
theorem SaveV.mono {s : Step} : ∀ N k k' v, Le k k' → SaveV s N k v → SaveV s N k' v := fun N k k' v hle h => by
  unfold SaveV at h ⊢
  split
  · rename_i q
    rw [if_pos q] at h
    obtain ⟨u, e, hu⟩ := h
    exact ⟨u, e, hu.le hle⟩
  · rename_i q
    rw [if_neg q] at h
    exact h
theorem name_le {s : Step} (h : formS s = true) : s.name.size ≤ 64 ∧ s.topic.size ≤ 64 := by
  have key : ∀ (u : Bool) (t : ByteArray), textU u t = true → t.size ≤ 64 := fun u t h => by
    unfold textU at h
    split at h
    · unfold isName at h
      simp only [Bool.and_eq_true, decide_eq_true_eq] at h
      omega
    · have := of_decide_eq_true h
      rw [this]; decide
  unfold formS at h
  split at h
  · cases h
  · simp only [Bool.and_eq_true] at h
    exact ⟨key _ _ h.1, key _ _ h.2.1⟩
theorem flat_succ {α : Type} (f : α → List Nat) {l : List α} {i : Nat} {x : α} (h : l[i]? = some x) : (l.take (i + 1)).flatMap f = (l.take i).flatMap f ++ f x := by
  obtain ⟨hlt, e⟩ := List.getElem?_eq_some_iff.1 h
  rw [List.take_succ_eq_append_getElem hlt, List.flatMap_append, e]; simp
theorem textL_bytes (s : ByteArray) : Bytes (textL s) := (varL_bytes _).append (strB_bytes s)
theorem texts_bytes (kn : Nat) (s : Step) (i : Nat) : Bytes (bigL kn 1 1 ++ ([s.name, s.topic].take i).flatMap textL) := (bigL_bytes _ _ _).append fun x hx => by
  obtain ⟨t, _, ht⟩ := List.mem_flatMap.1 hx
  exact textL_bytes t x ht
theorem textL_len {s : ByteArray} (h : s.size ≤ 64) : (textL s).length ≤ 74 := by
  have := varL_ten (z := zigN (s.size : Int)) (zigN_lt (by unfold I64; omega))
  rw [textL, List.length_append, strB_len]; omega
theorem texts_len {s : Step} (h : formS s = true) (kn i : Nat) : (bigL kn 1 1 ++ ([s.name, s.topic].take i).flatMap textL).length ≤ 149 := by
  obtain ⟨z1, z2⟩ := name_le h
  have t1 := textL_len z1; have t2 := textL_len z2
  rw [List.length_append, bigL_len]
  match i with
  | 0 => simp
  | 1 => simp; omega
  | i + 2 => simp; omega
theorem sl_two {k : PH} {b : Nat} {et : TypeId} {fr : Nat × Nat} {xs ys : List Nat} {a1 a2 : Option Addr} {c1 c2 : Nat} (h : k b = some (.cells [Value.slice a1 xs.length c1, .slice a2 ys.length c2].toArray et fr)) (h1 : Sl tU8 k a1 c1 xs) (h2 : Sl tU8 k a2 c2 ys) : Sl (tSl tU8) k (some ⟨b, 0, none⟩) 2 [xs, ys] :=
  sl_rows (xs := [xs, ys]) (css := [[.slice a1 xs.length c1], [.slice a2 ys.length c2]]) h rfl rfl (fun i cs v g1 g2 => by
    match i, g1, g2 with
    | 0, g1, g2 => simp at g1 g2; rw [← g1, ← g2]; exact ⟨_, _, rfl, h1⟩
    | 1, g1, g2 => simp at g1 g2; rw [← g1, ← g2]; exact ⟨_, _, rfl, h2⟩) (by simp [maxLen])
set_option maxHeartbeats 4000000 in
theorem save_ctn {k : PH} {s : Step} (hok : s.ok) : CTN Tryz.prog 13 #[.agg s.vs.toArray] k (SaveV s) := by
  refine ctn_of_body (l := [_]) Tryz.func13 rfl Tryz.ntmps13 (by simp) SaveV.mono fun F hF0 hFm => ?_
  repeat (first | refine cg_seq ?_ | refine cg_region ?_)
  refine rb rfl rfl rfl rfl (a_box rfl rfl) ?_; intro b1 k1 hb1 hN1 hle1 hk1
  have cs := cells_at (vs := s.vs) hk1 rfl
  repeat (first | refine cg_seq ?_ | refine cg_region ?_ | refine rg_nil ?_ | refine eg_then ?_ | refine qsp ?_ | refine qsg ?_)
  refine rs rfl rfl (loc_call_is rfl rfl rfl rfl (formed_ct s hok)) ?_
  repeat (first | refine rg_nil ?_ | refine eg_then ?_ | refine qsp ?_)
  cases q : formS s
  · repeat (first | refine cg_seq ?_ | refine cg_region ?_ | refine rg_nil ?_ | refine eg_then ?_ | refine qsp ?_ | refine cg_cond_true rfl ?_ | refine cg_ret ?_ | refine eg_then_ret ?_)
    refine eg_return2 rfl rfl rfl ?_
    unfold SaveV; rw [q]; rfl
  obtain ⟨n1, n8⟩ := form_kind q
  obtain ⟨z1, z2⟩ := name_le q
  obtain ⟨s0, s1, s2, s3, s4, s5⟩ := Step.parts cs
  repeat (first | refine cg_seq ?_ | refine cg_region ?_ | refine eg_then ?_ | refine qsl ?_ | refine qsf ?_ | refine cg_cond_false rfl ?_ | refine cg_skip ?_)
  refine rs rfl rfl (loc_det rfl (d_conv rfl rfl)) ?_
  obtain ⟨kn, hkn⟩ : ∃ kn, s.kind.toNat = kn := ⟨_, rfl⟩
  have hw : IntKind.u64.wrap s.kind = (kn : Int) := by
    have e : s.kind = ((kn : Nat) : Int) := by omega
    rw [e]; exact wrap64 (by omega)
  rw [hw]
  refine rvn rfl rfl rfl rfl rfl rfl rfl (put1_ct (sl_nilB _) (by simp) (by omega)) ?_
  rintro N2 k2 v2 hN2 _ hle2 hrow2
  obtain ⟨s0, s1, s2, s3, s4, s5⟩ := Step.parts (cs.le hle2)
  repeat (first | refine cg_seq ?_ | refine cg_region ?_ | refine rg_nil ?_ | refine eg_then ?_ | refine qsp ?_ | refine qsl ?_ | refine qsf ?_)
  refine rs rfl rfl (loc_det rfl (d_arr2V (a := .string s.name) (b := .string s.topic) rfl rfl rfl rfl rfl)) ?_
  repeat (first | refine rg_nil ?_ | refine eg_then ?_ | refine qsp ?_ | refine cg_block ?_)
  refine cg_loop (fun (i : Nat) e k' => ∃ v, Le k1 k' ∧ BRow F.w0.heap.size k' v (bigL kn 1 1 ++ ([s.name, s.topic].take i).flatMap textL) ∧ i ≤ 2 ∧ e = [(1, .is (.pointer (some ⟨b1, 0, none⟩))), (4, .is v), (20, .is (.agg #[.string s.name, .string s.topic])), (21, .is (.int .i64 (i : Int)))])
    (fun i => 2 - i) 0 ⟨v2, hle2, by simpa using hrow2.N_le hN2, by omega, rfl⟩ ⟨rfl, rfl, rfl, rfl, trivial⟩ ?_
  rintro i e k3 ⟨v3, hle3, hrow3, hi, rfl⟩
  repeat (first | refine cg_seq ?_ | refine cg_region ?_ | refine rg_nil ?_ | refine eg_then ?_ | refine qsp ?_)
  refine cg_cond rfl (fun h => ?_) (fun h => ?_)
  · have hlt : i < 2 := by have := of_decide_eq_true h; omega
    obtain ⟨t, ht⟩ : ∃ t : ByteArray, [s.name, s.topic][i]? = some t := ⟨_, List.getElem?_eq_getElem hlt⟩
    have htz : t.size ≤ 64 := by
      match i, ht with
      | 0, ht => cases ht; exact z1
      | 1, ht => cases ht; exact z2
    have hv : (#[Value.string s.name, .string s.topic] : Array Value)[i]? = some (.string t) := by
      match i, ht with
      | 0, ht => cases ht; rfl
      | 1, ht => cases ht; rfl
    repeat (first | refine cg_seq ?_ | refine cg_region ?_ | refine eg_then ?_ | refine cg_skip ?_ | refine cg_block ?_)
    refine rs rfl rfl (loc_det rfl (d_ixV rfl rfl rfl hlt rfl hv)) ?_
    obtain ⟨a3, c3, rfl, hs3⟩ := hrow3.sl (texts_bytes kn s i)
    repeat (first | refine cg_region ?_ | refine rg_nil ?_ | refine eg_then ?_ | refine qsp ?_)
    refine rvn rfl rfl rfl rfl rfl rfl rfl (putText_ct hs3 (by have := texts_len q kn i; omega) (by omega)) ?_
    rintro N4 k4 v4 hN4 _ hle4 hrow4
    repeat (first | refine cg_region ?_ | refine rg_nil ?_ | refine eg_then ?_ | refine qsp ?_ | refine qsa ?_ | refine eg_in_normal ?_)
    refine eg_again (i + 1) _ ⟨v4, hle3.trans hle4, ?_, hlt, rfl⟩ (by omega) ⟨rfl, rfl, rfl, rfl, trivial⟩
    rw [flat_succ textL ht, ← List.append_assoc]
    exact hrow4.N_le hN4
  have hi2 : i = 2 := by have := of_decide_eq_false h; omega
  subst hi2
  have hrow3 : BRow F.w0.heap.size k3 v3 (bigL kn 1 1 ++ textL s.name ++ textL s.topic) := by simpa using hrow3
  obtain ⟨s0, s1, s2, s3, s4, s5⟩ := Step.parts (cs.le hle3)
  repeat (first | refine cg_seq ?_ | refine cg_region ?_ | refine eg_then ?_ | refine qsl ?_ | refine qsf ?_ | refine cg_exit ?_ | refine eg_then_exit ?_ | refine eg_in_exit ?_)
  refine rs rfl rfl (loc_det rfl (d_arr3V (a := .int .i64 s.a) (b := .int .i64 s.b) (c := .int .i64 s.c) rfl rfl rfl rfl rfl rfl rfl)) ?_
  repeat (first | refine rg_nil ?_ | refine eg_then ?_ | refine qsp ?_ | refine cg_block ?_)
  obtain ⟨pre, hpre⟩ : ∃ pre, bigL kn 1 1 ++ textL s.name ++ textL s.topic = pre := ⟨_, rfl⟩
  have hpb : Bytes pre := by rw [← hpre]; exact ((bigL_bytes _ _ _).append (textL_bytes _)).append (textL_bytes _)
  have hpl : pre.length ≤ 149 := by
    have t1 := textL_len z1; have t2 := textL_len z2
    rw [← hpre, List.length_append, List.length_append, bigL_len]; omega
  rw [hpre] at hrow3
  refine cg_loop (fun (i : Nat) e k' => ∃ v, Le k3 k' ∧ BRow F.w0.heap.size k' v (pre ++ ([s.a, s.b, s.c].take i).flatMap fun n => varL (zigN n)) ∧ i ≤ 3 ∧ e = [(4, .is v), (34, .is (.agg #[.int .i64 s.a, .int .i64 s.b, .int .i64 s.c])), (35, .is (.int .i64 (i : Int)))])
    (fun i => 3 - i) 0 ⟨v3, Le.refl _, by simpa using hrow3, by omega, rfl⟩ ⟨rfl, rfl, rfl, trivial⟩ ?_
  rintro i e k5 ⟨v5, hle5, hrow5, hi, rfl⟩
  have hnum : ∀ n ∈ [s.a, s.b, s.c], I64 n := by
    intro n hn
    simp at hn
    rcases hn with rfl | rfl | rfl
    · exact hok.2.2.2.1
    · exact hok.2.2.2.2.1
    · exact hok.2.2.2.2.2
  repeat (first | refine cg_seq ?_ | refine cg_region ?_ | refine rg_nil ?_ | refine eg_then ?_ | refine qsp ?_)
  refine cg_cond rfl (fun h => ?_) (fun h => ?_)
  · have hlt : i < 3 := by have := of_decide_eq_true h; omega
    obtain ⟨t, ht⟩ : ∃ t : Int, [s.a, s.b, s.c][i]? = some t := ⟨_, List.getElem?_eq_getElem hlt⟩
    have hv : (#[Value.int .i64 s.a, .int .i64 s.b, .int .i64 s.c] : Array Value)[i]? = some (.int .i64 t) := by
      match i, ht with
      | 0, ht => cases ht; rfl
      | 1, ht => cases ht; rfl
      | 2, ht => cases ht; rfl
    repeat (first | refine cg_seq ?_ | refine cg_region ?_ | refine eg_then ?_ | refine cg_skip ?_ | refine cg_block ?_)
    refine rs rfl rfl (loc_det rfl (d_ixV rfl rfl rfl hlt rfl hv)) ?_
    obtain ⟨a5, c5, rfl, hs5⟩ := hrow5.sl (hpb.append fun x hx => by
      obtain ⟨n, _, hn⟩ := List.mem_flatMap.1 hx
      exact varL_bytes _ x hn)
    repeat (first | refine cg_region ?_ | refine rg_nil ?_ | refine eg_then ?_ | refine qsp ?_)
    refine rvn rfl rfl rfl rfl rfl rfl rfl (putVar_ct hs5 (by
      have : ∀ (l : List Int), (∀ n ∈ l, I64 n) → (l.flatMap fun n => varL (zigN n)).length ≤ 10 * l.length := by
        intro l
        induction l with
        | nil => simp
        | cons n l ih =>
          intro h
          have := varL_ten (zigN_lt (h n (by simp)))
          have := ih fun m hm => h m (by simp [hm])
          rw [List.flatMap_cons, List.length_append, List.length_cons]; omega
      have h1 := this ([s.a, s.b, s.c].take i) fun n hn => hnum n (List.mem_of_mem_take hn)
      have h2 : ([s.a, s.b, s.c].take i).length ≤ 3 := by rw [List.length_take]; simp; omega
      rw [List.length_append]; omega) (hnum t (List.mem_of_getElem? ht))) ?_
    rintro N6 k6 v6 hN6 _ hle6 hrow6
    repeat (first | refine cg_region ?_ | refine rg_nil ?_ | refine eg_then ?_ | refine qsp ?_ | refine qsa ?_ | refine eg_in_normal ?_)
    refine eg_again (i + 1) _ ⟨v6, hle5.trans hle6, ?_, hlt, rfl⟩ (by omega) ⟨rfl, rfl, rfl, trivial⟩
    rw [flat_succ _ ht, ← List.append_assoc]
    exact hrow6.N_le hN6
  have hi3 : i = 3 := by have := of_decide_eq_false h; omega
  subst hi3
  have hstep : pre ++ ([s.a, s.b, s.c].take 3).flatMap (fun n => varL (zigN n)) = stepL s := by
    rw [← hpre, ← hkn]; simp [stepL]
  rw [hstep] at hrow5
  have hsb : Bytes (stepL s) := by
    rw [← hstep]
    exact hpb.append fun x hx => by
      obtain ⟨n, _, hn⟩ := List.mem_flatMap.1 hx
      exact varL_bytes _ x hn
  have hsl : (stepL s).length ≤ 179 := by
    have v1 := varL_ten (zigN_lt (hnum s.a (by simp))); have v2 := varL_ten (zigN_lt (hnum s.b (by simp))); have v3 := varL_ten (zigN_lt (hnum s.c (by simp)))
    rw [← hstep]; simp; omega
  obtain ⟨a5, c5, rfl, hs5⟩ := hrow5.sl hsb
  repeat (first | refine cg_seq ?_ | refine cg_region ?_ | refine eg_then ?_ | refine qsp ?_ | refine cg_exit ?_ | refine eg_then_exit ?_ | refine eg_in_exit ?_)
  refine rvn rfl rfl rfl rfl rfl rfl rfl (seal_ct hs5 (by omega)) ?_
  rintro N6 k6 v6 hN6 _ hle6 hrow6
  obtain ⟨a6, c6, rfl, hs6⟩ := hrow6.sl (hsb.append (bigL_bytes _ _ _))
  have hzl : (sealL (stepL s)).length ≤ 183 := by rw [sealL_len]; omega
  repeat (first | refine cg_seq ?_ | refine cg_region ?_ | refine rg_nil ?_ | refine eg_then ?_ | refine qsp ?_ | refine qsn ?_)
  refine rs rfl rfl (loc_det rfl (d_conv rfl rfl)) ?_
  rw [wrap64 (n := (sealL (stepL s)).length) (by omega)]
  refine rvn rfl rfl rfl rfl rfl rfl rfl (put4_ct (sl_nilB _) (by simp) (by omega)) ?_
  rintro N7 k7 v7 hN7 _ hle7 hrow7
  obtain ⟨a7, c7, rfl, hs7⟩ := hrow7.sl (bigL_bytes _ _ _)
  repeat (first | refine qsp ?_)
  refine rb rfl rfl rfl rfl (a_slice (cells := [.slice a7 ([] ++ bigL (sealL (stepL s)).length 4 4).length c7, .slice a6 (sealL (stepL s)).length c6]) rfl rfl rfl rfl (by kernel_rfl) rfl) ?_; intro b8 k8 hb8 hN8 hle8 hk8
  have hs := sl_two hk8 (hs7.le hle8) (hs6.le (hle7.trans hle8))
  refine rvn rfl rfl rfl rfl rfl rfl rfl (concatB_ctn hs (by simp [lenB, bigL_len]; omega)) ?_
  rintro N9 k9 v9 hN9 _ hle9 hrow9
  repeat (first | refine rg_nil ?_ | refine eg_then ?_ | refine qsp ?_ | refine cg_ret ?_)
  refine eg_return2 rfl rfl rfl ?_
  unfold SaveV
  rw [if_pos q]
  refine ⟨v9, rfl, ?_⟩
  have e : [[] ++ bigL (sealL (stepL s)).length 4 4, sealL (stepL s)].flatten = saveL s := by simp [saveL]
  rw [e] at hrow9
  exact hrow9.N_le hN9
end Go.Wm

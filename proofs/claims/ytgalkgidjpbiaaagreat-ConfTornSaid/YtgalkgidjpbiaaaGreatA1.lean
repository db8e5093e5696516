/-
  Whether a configuration may be, the program's: lists that rise. Conditions: that what is handed in reads as data.
-/
import Derived.Test.YtgalkgidjpbiaaaGreatC2
set_option linter.all false
namespace Go.Wm
open Go.RowKit Go.Proofs
attribute [local irreducible] RG CG EG WA Loc Det Alc CT Exit.then Exit.inBlock Code.wp bodyPost
set_option maxHeartbeats 400000 in
theorem within_ct {k : PH} (n a b : Int) : CT Tryz.prog 91 #[.int .i64 n, .int .i64 a, .int .i64 b] k (fun _ v => v = .bool (inI n a b)) := by
  refine ct_of_body (l := [_, _, _]) Tryz.func91 rfl Tryz.ntmps91 (by simp) (fun _ _ _ _ h => h) fun F hF0 hFm => ?_
  repeat (first | refine cg_seq ?_ | refine cg_region ?_ | refine rg_nil ?_ | refine eg_then ?_ | refine qsp ?_)
  cases q : decide (n ≥ a)
  · repeat (first | refine rg_nil ?_ | refine eg_then ?_ | refine qsp ?_ | refine qso ?_ | refine cg_ret ?_)
    refine eg_return rfl rfl ?_
    have : decide (a ≤ n) = false := q
    simp [inI, this]
  · repeat (first | refine rg_nil ?_ | refine eg_then ?_ | refine qsp ?_ | refine cg_ret ?_)
    refine eg_return rfl rfl ?_
    have : decide (a ≤ n) = true := q
    simp [inI, this]
set_option maxHeartbeats 1000000 in
theorem rightTopic_ct {k : PH} {a : Option Addr} {c : Nat} {l : List Topic} (hl : Sl tTopic k a c l) {g1 g2 : FuncId} [FnOk Tryz.prog g1] [FnOk Tryz.prog g2] {cap2 : Array Value} (ord : Topic → Topic → Int) (may : Topic → Bool)
    (ho : ∀ k0 x y, CT Tryz.prog g1 #[.agg x.vs.toArray, .agg y.vs.toArray] k0 (fun _ v => v = .int .i64 (ord x y)))
    (hm : ∀ k0, Le k k0 → ∀ x ∈ l, x.ok → CT Tryz.prog g2 (#[] ++ [.agg x.vs.toArray].toArray ++ cap2) k0 (fun _ v => v = .bool (may x))) :
    CT Tryz.prog 111 #[.slice a l.length c, .func (.func g1) #[] #[], .func (.func g2) #[] cap2] k (fun _ v => v = .bool (decide (RightP ord may l))) := by
  refine ct_of_body (l := [_, _, _]) Tryz.func111 rfl Tryz.ntmps111 (by simp) (fun _ _ _ _ h => h) fun F hF0 hFm => ?_
  have b1 := hl.cap; have b2 := hl.max; unfold maxLen at b2
  repeat (first | refine cg_seq ?_ | refine cg_region ?_ | refine rg_nil ?_ | refine eg_then ?_ | refine qsp ?_ | refine qsn ?_ | refine cg_block ?_)
  refine cg_loop (fun (i : Nat) e k' => Le k k' ∧ i ≤ l.length ∧ (∀ j, (h : j < l.length) → j < i → may l[j] = true ∧ (0 < j → ord l[j - 1] l[j] < 0)) ∧ e = [(0, .is (.slice a l.length c)), (1, .is (.func (.func g1) #[] #[])), (2, .is (.func (.func g2) #[] cap2)), (9, .is (.slice a l.length c)), (10, .is (.int .i64 (l.length : Int))), (11, .is (.int .i64 (i : Int)))])
    (fun i => l.length - i) 0 ⟨Le.refl _, Nat.zero_le _, fun j _ hj => by omega, rfl⟩ ⟨rfl, rfl, rfl, rfl, rfl, rfl, trivial⟩ ?_
  rintro i e k1 ⟨hle, hi, hno, rfl⟩
  repeat (first | refine cg_seq ?_ | refine cg_region ?_ | refine rg_nil ?_ | refine eg_then ?_ | refine qsp ?_)
  refine cg_cond rfl (fun h => ?_) (fun h => ?_)
  · have hlt : i < l.length := by simpa using h
    have hno' : ∀ (b : Bool), (b = true ↔ may l[i] = true ∧ (0 < i → ord l[i - 1] l[i] < 0)) → b = false → RightP ord may l → False := fun b hb hf hr => by
      have := hb.2 (hr i hlt)
      rw [hf] at this; cases this
    obtain ⟨bx, ox, cx, ea, ⟨ecx, hok⟩, hcx⟩ := (hl.le hle).el i l[i] (List.getElem?_eq_getElem hlt)
    subst ecx
    have ea' := ea
    subst ea
    repeat (first | refine cg_seq ?_ | refine cg_region ?_ | refine eg_then ?_ | refine qsp ?_ | refine qsi ?_ | refine qsg ?_ | refine cg_skip ?_ | refine cg_block ?_)
    refine rb rfl rfl rfl rfl (a_alloc rfl) ?_; intro b8 k8 hb8 hN8 hle8 hk8
    repeat (first | refine qsp ?_)
    refine rw1 (vs := l[i].vs) rfl rfl rfl rfl rfl rfl rfl hk8 rfl (.inl hN8) ?_ ?_
    · exact Topic.one k l[i].vs l[i] ⟨rfl, hok⟩
    intro k9 ht9 hk9
    have c9 := cells_at (vs := l[i].vs) hk9 rfl
    have hle9 : Le k1 k9 := ht9 k1 hle8 hb8
    have hm' := hm k9 (hle.trans hle9) l[i] (List.getElem_mem hlt) hok
    repeat (first | refine cg_seq ?_ | refine rg_nil ?_ | refine eg_then ?_)
    refine cg_any (by kernel_rfl) rfl ?_
    repeat (first | refine qwp ?_ | refine qwg ?_)
    refine ws rfl (loc_call_is rfl rfl rfl rfl (hm')) ?_
    repeat (first | refine qwp ?_)
    have out : ¬ (may l[i] = true ∧ (0 < i → ord l[i - 1] l[i] < 0)) → decide (RightP ord may l) = false := fun h => decide_eq_false fun hr => h (hr i hlt)
    cases q1 : may l[i]
    · repeat (first | refine qwp ?_ | refine qwo ?_ | (refine wn rfl ?_; refine eg_then ?_))
      repeat (first | refine cg_seq ?_ | refine cg_region ?_ | refine rg_nil ?_ | refine eg_then ?_ | refine qsp ?_ | refine cg_cond_true rfl ?_ | refine cg_ret ?_ | refine eg_then_ret ?_ | refine eg_in_ret ?_)
      refine eg_return rfl rfl ?_
      rw [out (by simp [q1])]
    repeat (first | refine qwp ?_)
    cases q2 : decide ((i : Int) > 0)
    · have hi0 : i = 0 := by simp at q2; omega
      repeat (first | refine qwp ?_ | refine qwo ?_ | (refine wn rfl ?_; refine eg_then ?_))
      repeat (first | refine cg_region ?_ | refine rg_nil ?_ | refine eg_then ?_ | refine qsp ?_ | refine qsa ?_ | refine cg_cond_false rfl ?_ | refine cg_skip ?_ | refine eg_in_normal ?_)
      refine eg_again (i + 1) _ ⟨hle.trans hle9, hlt, fun j hj hji => ?_, rfl⟩ (by omega) ⟨rfl, rfl, rfl, rfl, rfl, rfl, trivial⟩
      have : j = i := by omega
      subst this
      exact ⟨q1, fun h => by omega⟩
    have hi0 : 0 < i := by simp at q2; omega
    obtain ⟨by', oy, cy, ey, ⟨ecy, hoky⟩, hcy⟩ := ((hl.le hle).le hle9).el (i - 1) l[i - 1] (List.getElem?_eq_getElem (by omega))
    subst ecy
    have ho' := ho k9 l[i - 1] l[i]
    simp only [Option.some.injEq, Addr.mk.injEq, and_true] at ey
    obtain ⟨rfl, rfl⟩ := ey
    repeat (first | refine qwp ?_ | refine qws ?_)
    rw [show ((i : Int) - 1) = ((i - 1 : Nat) : Int) by omega]
    repeat (first | refine qwi ?_ | refine qwg ?_)
    refine ws rfl (loc_call_is rfl rfl rfl rfl (ho')) ?_
    repeat (first | refine qwp ?_ | (refine wn rfl ?_; refine eg_then ?_))
    cases q3 : decide (ord l[i - 1] l[i] ≥ 0)
    · have hlt0 : ord l[i - 1] l[i] < 0 := by simp at q3; omega
      skip
      repeat (first | refine cg_region ?_ | refine rg_nil ?_ | refine eg_then ?_ | refine qsp ?_ | refine qsa ?_ | refine cg_cond_false rfl ?_ | refine cg_skip ?_ | refine eg_in_normal ?_)
      refine eg_again (i + 1) _ ⟨hle.trans hle9, hlt, fun j hj hji => ?_, rfl⟩ (by omega) ⟨rfl, rfl, rfl, rfl, rfl, rfl, trivial⟩
      by_cases e : j = i
      · subst e; exact ⟨q1, fun _ => hlt0⟩
      · exact hno j hj (by omega)
    · skip
      repeat (first | refine cg_seq ?_ | refine cg_region ?_ | refine rg_nil ?_ | refine eg_then ?_ | refine qsp ?_ | refine cg_cond_true rfl ?_ | refine cg_ret ?_ | refine eg_then_ret ?_ | refine eg_in_ret ?_)
      refine eg_return rfl rfl ?_
      rw [out (fun h => by have := h.2 hi0; simp at q3; omega)]
  · have hil : i = l.length := by simp at h; omega
    repeat (first | refine cg_seq ?_ | refine cg_region ?_ | refine rg_nil ?_ | refine eg_then ?_ | refine qsp ?_ | refine cg_ret ?_ | refine cg_exit ?_ | refine eg_then_exit ?_ | refine eg_in_exit ?_)
    refine eg_return rfl rfl ?_
    rw [decide_eq_true (show RightP ord may l from fun j hj => hno j hj (by omega))]

set_option maxHeartbeats 1000000 in
theorem rightRule_ct {k : PH} {a : Option Addr} {c : Nat} {l : List Rule} (hl : Sl tRule k a c l) {g1 g2 : FuncId} [FnOk Tryz.prog g1] [FnOk Tryz.prog g2] {cap2 : Array Value} (ord : Rule → Rule → Int) (may : Rule → Bool)
    (ho : ∀ k0 x y, CT Tryz.prog g1 #[.agg x.vs.toArray, .agg y.vs.toArray] k0 (fun _ v => v = .int .i64 (ord x y)))
    (hm : ∀ k0, Le k k0 → ∀ x ∈ l, x.ok → CT Tryz.prog g2 (#[] ++ [.agg x.vs.toArray].toArray ++ cap2) k0 (fun _ v => v = .bool (may x))) :
    CT Tryz.prog 114 #[.slice a l.length c, .func (.func g1) #[] #[], .func (.func g2) #[] cap2] k (fun _ v => v = .bool (decide (RightP ord may l))) := by
  refine ct_of_body (l := [_, _, _]) Tryz.func114 rfl Tryz.ntmps114 (by simp) (fun _ _ _ _ h => h) fun F hF0 hFm => ?_
  have b1 := hl.cap; have b2 := hl.max; unfold maxLen at b2
  repeat (first | refine cg_seq ?_ | refine cg_region ?_ | refine rg_nil ?_ | refine eg_then ?_ | refine qsp ?_ | refine qsn ?_ | refine cg_block ?_)
  refine cg_loop (fun (i : Nat) e k' => Le k k' ∧ i ≤ l.length ∧ (∀ j, (h : j < l.length) → j < i → may l[j] = true ∧ (0 < j → ord l[j - 1] l[j] < 0)) ∧ e = [(0, .is (.slice a l.length c)), (1, .is (.func (.func g1) #[] #[])), (2, .is (.func (.func g2) #[] cap2)), (9, .is (.slice a l.length c)), (10, .is (.int .i64 (l.length : Int))), (11, .is (.int .i64 (i : Int)))])
    (fun i => l.length - i) 0 ⟨Le.refl _, Nat.zero_le _, fun j _ hj => by omega, rfl⟩ ⟨rfl, rfl, rfl, rfl, rfl, rfl, trivial⟩ ?_
  rintro i e k1 ⟨hle, hi, hno, rfl⟩
  repeat (first | refine cg_seq ?_ | refine cg_region ?_ | refine rg_nil ?_ | refine eg_then ?_ | refine qsp ?_)
  refine cg_cond rfl (fun h => ?_) (fun h => ?_)
  · have hlt : i < l.length := by simpa using h
    have hno' : ∀ (b : Bool), (b = true ↔ may l[i] = true ∧ (0 < i → ord l[i - 1] l[i] < 0)) → b = false → RightP ord may l → False := fun b hb hf hr => by
      have := hb.2 (hr i hlt)
      rw [hf] at this; cases this
    obtain ⟨bx, ox, cx, ea, ⟨ecx, hok⟩, hcx⟩ := (hl.le hle).el i l[i] (List.getElem?_eq_getElem hlt)
    subst ecx
    have ea' := ea
    subst ea
    repeat (first | refine cg_seq ?_ | refine cg_region ?_ | refine eg_then ?_ | refine qsp ?_ | refine qsi ?_ | refine qsg ?_ | refine cg_skip ?_ | refine cg_block ?_)
    refine rb rfl rfl rfl rfl (a_alloc rfl) ?_; intro b8 k8 hb8 hN8 hle8 hk8
    repeat (first | refine qsp ?_)
    refine rw1 (vs := l[i].vs) rfl rfl rfl rfl rfl rfl rfl hk8 rfl (.inl hN8) ?_ ?_
    · exact Rule.one k l[i].vs l[i] ⟨rfl, hok⟩
    intro k9 ht9 hk9
    have c9 := cells_at (vs := l[i].vs) hk9 rfl
    have hle9 : Le k1 k9 := ht9 k1 hle8 hb8
    have hm' := hm k9 (hle.trans hle9) l[i] (List.getElem_mem hlt) hok
    repeat (first | refine cg_seq ?_ | refine rg_nil ?_ | refine eg_then ?_)
    refine cg_any (by kernel_rfl) rfl ?_
    repeat (first | refine qwp ?_ | refine qwg ?_)
    refine ws rfl (loc_call_is rfl rfl rfl rfl (hm')) ?_
    repeat (first | refine qwp ?_)
    have out : ¬ (may l[i] = true ∧ (0 < i → ord l[i - 1] l[i] < 0)) → decide (RightP ord may l) = false := fun h => decide_eq_false fun hr => h (hr i hlt)
    cases q1 : may l[i]
    · repeat (first | refine qwp ?_ | refine qwo ?_ | (refine wn rfl ?_; refine eg_then ?_))
      repeat (first | refine cg_seq ?_ | refine cg_region ?_ | refine rg_nil ?_ | refine eg_then ?_ | refine qsp ?_ | refine cg_cond_true rfl ?_ | refine cg_ret ?_ | refine eg_then_ret ?_ | refine eg_in_ret ?_)
      refine eg_return rfl rfl ?_
      rw [out (by simp [q1])]
    repeat (first | refine qwp ?_)
    cases q2 : decide ((i : Int) > 0)
    · have hi0 : i = 0 := by simp at q2; omega
      repeat (first | refine qwp ?_ | refine qwo ?_ | (refine wn rfl ?_; refine eg_then ?_))
      repeat (first | refine cg_region ?_ | refine rg_nil ?_ | refine eg_then ?_ | refine qsp ?_ | refine qsa ?_ | refine cg_cond_false rfl ?_ | refine cg_skip ?_ | refine eg_in_normal ?_)
      refine eg_again (i + 1) _ ⟨hle.trans hle9, hlt, fun j hj hji => ?_, rfl⟩ (by omega) ⟨rfl, rfl, rfl, rfl, rfl, rfl, trivial⟩
      have : j = i := by omega
      subst this
      exact ⟨q1, fun h => by omega⟩
    have hi0 : 0 < i := by simp at q2; omega
    obtain ⟨by', oy, cy, ey, ⟨ecy, hoky⟩, hcy⟩ := ((hl.le hle).le hle9).el (i - 1) l[i - 1] (List.getElem?_eq_getElem (by omega))
    subst ecy
    have ho' := ho k9 l[i - 1] l[i]
    simp only [Option.some.injEq, Addr.mk.injEq, and_true] at ey
    obtain ⟨rfl, rfl⟩ := ey
    repeat (first | refine qwp ?_ | refine qws ?_)
    rw [show ((i : Int) - 1) = ((i - 1 : Nat) : Int) by omega]
    repeat (first | refine qwi ?_ | refine qwg ?_)
    refine ws rfl (loc_call_is rfl rfl rfl rfl (ho')) ?_
    repeat (first | refine qwp ?_ | (refine wn rfl ?_; refine eg_then ?_))
    cases q3 : decide (ord l[i - 1] l[i] ≥ 0)
    · have hlt0 : ord l[i - 1] l[i] < 0 := by simp at q3; omega
      skip
      repeat (first | refine cg_region ?_ | refine rg_nil ?_ | refine eg_then ?_ | refine qsp ?_ | refine qsa ?_ | refine cg_cond_false rfl ?_ | refine cg_skip ?_ | refine eg_in_normal ?_)
      refine eg_again (i + 1) _ ⟨hle.trans hle9, hlt, fun j hj hji => ?_, rfl⟩ (by omega) ⟨rfl, rfl, rfl, rfl, rfl, rfl, trivial⟩
      by_cases e : j = i
      · subst e; exact ⟨q1, fun _ => hlt0⟩
      · exact hno j hj (by omega)
    · skip
      repeat (first | refine cg_seq ?_ | refine cg_region ?_ | refine rg_nil ?_ | refine eg_then ?_ | refine qsp ?_ | refine cg_cond_true rfl ?_ | refine cg_ret ?_ | refine eg_then_ret ?_ | refine eg_in_ret ?_)
      refine eg_return rfl rfl ?_
      rw [out (fun h => by have := h.2 hi0; simp at q3; omega)]
  · have hil : i = l.length := by simp at h; omega
    repeat (first | refine cg_seq ?_ | refine cg_region ?_ | refine rg_nil ?_ | refine eg_then ?_ | refine qsp ?_ | refine cg_ret ?_ | refine cg_exit ?_ | refine eg_then_exit ?_ | refine eg_in_exit ?_)
    refine eg_return rfl rfl ?_
    rw [decide_eq_true (show RightP ord may l from fun j hj => hno j hj (by omega))]

set_option maxHeartbeats 1000000 in
theorem rightRate_ct {k : PH} {a : Option Addr} {c : Nat} {l : List Rate} (hl : Sl tRate k a c l) {g1 g2 : FuncId} [FnOk Tryz.prog g1] [FnOk Tryz.prog g2] {cap2 : Array Value} (ord : Rate → Rate → Int) (may : Rate → Bool)
    (ho : ∀ k0 x y, CT Tryz.prog g1 #[.agg x.vs.toArray, .agg y.vs.toArray] k0 (fun _ v => v = .int .i64 (ord x y)))
    (hm : ∀ k0, Le k k0 → ∀ x ∈ l, x.ok → CT Tryz.prog g2 (#[] ++ [.agg x.vs.toArray].toArray ++ cap2) k0 (fun _ v => v = .bool (may x))) :
    CT Tryz.prog 118 #[.slice a l.length c, .func (.func g1) #[] #[], .func (.func g2) #[] cap2] k (fun _ v => v = .bool (decide (RightP ord may l))) := by
  refine ct_of_body (l := [_, _, _]) Tryz.func118 rfl Tryz.ntmps118 (by simp) (fun _ _ _ _ h => h) fun F hF0 hFm => ?_
  have b1 := hl.cap; have b2 := hl.max; unfold maxLen at b2
  repeat (first | refine cg_seq ?_ | refine cg_region ?_ | refine rg_nil ?_ | refine eg_then ?_ | refine qsp ?_ | refine qsn ?_ | refine cg_block ?_)
  refine cg_loop (fun (i : Nat) e k' => Le k k' ∧ i ≤ l.length ∧ (∀ j, (h : j < l.length) → j < i → may l[j] = true ∧ (0 < j → ord l[j - 1] l[j] < 0)) ∧ e = [(0, .is (.slice a l.length c)), (1, .is (.func (.func g1) #[] #[])), (2, .is (.func (.func g2) #[] cap2)), (9, .is (.slice a l.length c)), (10, .is (.int .i64 (l.length : Int))), (11, .is (.int .i64 (i : Int)))])
    (fun i => l.length - i) 0 ⟨Le.refl _, Nat.zero_le _, fun j _ hj => by omega, rfl⟩ ⟨rfl, rfl, rfl, rfl, rfl, rfl, trivial⟩ ?_
  rintro i e k1 ⟨hle, hi, hno, rfl⟩
  repeat (first | refine cg_seq ?_ | refine cg_region ?_ | refine rg_nil ?_ | refine eg_then ?_ | refine qsp ?_)
  refine cg_cond rfl (fun h => ?_) (fun h => ?_)
  · have hlt : i < l.length := by simpa using h
    have hno' : ∀ (b : Bool), (b = true ↔ may l[i] = true ∧ (0 < i → ord l[i - 1] l[i] < 0)) → b = false → RightP ord may l → False := fun b hb hf hr => by
      have := hb.2 (hr i hlt)
      rw [hf] at this; cases this
    obtain ⟨bx, ox, cx, ea, ⟨ecx, hok⟩, hcx⟩ := (hl.le hle).el i l[i] (List.getElem?_eq_getElem hlt)
    subst ecx
    have ea' := ea
    subst ea
    repeat (first | refine cg_seq ?_ | refine cg_region ?_ | refine eg_then ?_ | refine qsp ?_ | refine qsi ?_ | refine qsg ?_ | refine cg_skip ?_ | refine cg_block ?_)
    refine rb rfl rfl rfl rfl (a_alloc rfl) ?_; intro b8 k8 hb8 hN8 hle8 hk8
    repeat (first | refine qsp ?_)
    refine rw1 (vs := l[i].vs) rfl rfl rfl rfl rfl rfl rfl hk8 rfl (.inl hN8) ?_ ?_
    · exact Rate.one k l[i].vs l[i] ⟨rfl, hok⟩
    intro k9 ht9 hk9
    have c9 := cells_at (vs := l[i].vs) hk9 rfl
    have hle9 : Le k1 k9 := ht9 k1 hle8 hb8
    have hm' := hm k9 (hle.trans hle9) l[i] (List.getElem_mem hlt) hok
    repeat (first | refine cg_seq ?_ | refine rg_nil ?_ | refine eg_then ?_)
    refine cg_any (by kernel_rfl) rfl ?_
    repeat (first | refine qwp ?_ | refine qwg ?_)
    refine ws rfl (loc_call_is rfl rfl rfl rfl (hm')) ?_
    repeat (first | refine qwp ?_)
    have out : ¬ (may l[i] = true ∧ (0 < i → ord l[i - 1] l[i] < 0)) → decide (RightP ord may l) = false := fun h => decide_eq_false fun hr => h (hr i hlt)
    cases q1 : may l[i]
    · repeat (first | refine qwp ?_ | refine qwo ?_ | (refine wn rfl ?_; refine eg_then ?_))
      repeat (first | refine cg_seq ?_ | refine cg_region ?_ | refine rg_nil ?_ | refine eg_then ?_ | refine qsp ?_ | refine cg_cond_true rfl ?_ | refine cg_ret ?_ | refine eg_then_ret ?_ | refine eg_in_ret ?_)
      refine eg_return rfl rfl ?_
      rw [out (by simp [q1])]
    repeat (first | refine qwp ?_)
    cases q2 : decide ((i : Int) > 0)
    · have hi0 : i = 0 := by simp at q2; omega
      repeat (first | refine qwp ?_ | refine qwo ?_ | (refine wn rfl ?_; refine eg_then ?_))
      repeat (first | refine cg_region ?_ | refine rg_nil ?_ | refine eg_then ?_ | refine qsp ?_ | refine qsa ?_ | refine cg_cond_false rfl ?_ | refine cg_skip ?_ | refine eg_in_normal ?_)
      refine eg_again (i + 1) _ ⟨hle.trans hle9, hlt, fun j hj hji => ?_, rfl⟩ (by omega) ⟨rfl, rfl, rfl, rfl, rfl, rfl, trivial⟩
      have : j = i := by omega
      subst this
      exact ⟨q1, fun h => by omega⟩
    have hi0 : 0 < i := by simp at q2; omega
    obtain ⟨by', oy, cy, ey, ⟨ecy, hoky⟩, hcy⟩ := ((hl.le hle).le hle9).el (i - 1) l[i - 1] (List.getElem?_eq_getElem (by omega))
    subst ecy
    have ho' := ho k9 l[i - 1] l[i]
    simp only [Option.some.injEq, Addr.mk.injEq, and_true] at ey
    obtain ⟨rfl, rfl⟩ := ey
    repeat (first | refine qwp ?_ | refine qws ?_)
    rw [show ((i : Int) - 1) = ((i - 1 : Nat) : Int) by omega]
    repeat (first | refine qwi ?_ | refine qwg ?_)
    refine ws rfl (loc_call_is rfl rfl rfl rfl (ho')) ?_
    repeat (first | refine qwp ?_ | (refine wn rfl ?_; refine eg_then ?_))
    cases q3 : decide (ord l[i - 1] l[i] ≥ 0)
    · have hlt0 : ord l[i - 1] l[i] < 0 := by simp at q3; omega
      skip
      repeat (first | refine cg_region ?_ | refine rg_nil ?_ | refine eg_then ?_ | refine qsp ?_ | refine qsa ?_ | refine cg_cond_false rfl ?_ | refine cg_skip ?_ | refine eg_in_normal ?_)
      refine eg_again (i + 1) _ ⟨hle.trans hle9, hlt, fun j hj hji => ?_, rfl⟩ (by omega) ⟨rfl, rfl, rfl, rfl, rfl, rfl, trivial⟩
      by_cases e : j = i
      · subst e; exact ⟨q1, fun _ => hlt0⟩
      · exact hno j hj (by omega)
    · skip
      repeat (first | refine cg_seq ?_ | refine cg_region ?_ | refine rg_nil ?_ | refine eg_then ?_ | refine qsp ?_ | refine cg_cond_true rfl ?_ | refine cg_ret ?_ | refine eg_then_ret ?_ | refine eg_in_ret ?_)
      refine eg_return rfl rfl ?_
      rw [out (fun h => by have := h.2 hi0; simp at q3; omega)]
  · have hil : i = l.length := by simp at h; omega
    repeat (first | refine cg_seq ?_ | refine cg_region ?_ | refine rg_nil ?_ | refine eg_then ?_ | refine qsp ?_ | refine cg_ret ?_ | refine cg_exit ?_ | refine eg_then_exit ?_ | refine eg_in_exit ?_)
    refine eg_return rfl rfl ?_
    rw [decide_eq_true (show RightP ord may l from fun j hj => hno j hj (by omega))]

set_option maxHeartbeats 1000000 in
theorem rightWay_ct {k : PH} {a : Option Addr} {c : Nat} {l : List Way} (hl : Sl tWay k a c l) {g1 g2 : FuncId} [FnOk Tryz.prog g1] [FnOk Tryz.prog g2] {cap2 : Array Value} (ord : Way → Way → Int) (may : Way → Bool)
    (ho : ∀ k0 x y, CT Tryz.prog g1 #[.agg x.vs.toArray, .agg y.vs.toArray] k0 (fun _ v => v = .int .i64 (ord x y)))
    (hm : ∀ k0, Le k k0 → ∀ x ∈ l, x.ok → CT Tryz.prog g2 (#[] ++ [.agg x.vs.toArray].toArray ++ cap2) k0 (fun _ v => v = .bool (may x))) :
    CT Tryz.prog 121 #[.slice a l.length c, .func (.func g1) #[] #[], .func (.func g2) #[] cap2] k (fun _ v => v = .bool (decide (RightP ord may l))) := by
  refine ct_of_body (l := [_, _, _]) Tryz.func121 rfl Tryz.ntmps121 (by simp) (fun _ _ _ _ h => h) fun F hF0 hFm => ?_
  have b1 := hl.cap; have b2 := hl.max; unfold maxLen at b2
  repeat (first | refine cg_seq ?_ | refine cg_region ?_ | refine rg_nil ?_ | refine eg_then ?_ | refine qsp ?_ | refine qsn ?_ | refine cg_block ?_)
  refine cg_loop (fun (i : Nat) e k' => Le k k' ∧ i ≤ l.length ∧ (∀ j, (h : j < l.length) → j < i → may l[j] = true ∧ (0 < j → ord l[j - 1] l[j] < 0)) ∧ e = [(0, .is (.slice a l.length c)), (1, .is (.func (.func g1) #[] #[])), (2, .is (.func (.func g2) #[] cap2)), (9, .is (.slice a l.length c)), (10, .is (.int .i64 (l.length : Int))), (11, .is (.int .i64 (i : Int)))])
    (fun i => l.length - i) 0 ⟨Le.refl _, Nat.zero_le _, fun j _ hj => by omega, rfl⟩ ⟨rfl, rfl, rfl, rfl, rfl, rfl, trivial⟩ ?_
  rintro i e k1 ⟨hle, hi, hno, rfl⟩
  repeat (first | refine cg_seq ?_ | refine cg_region ?_ | refine rg_nil ?_ | refine eg_then ?_ | refine qsp ?_)
  refine cg_cond rfl (fun h => ?_) (fun h => ?_)
  · have hlt : i < l.length := by simpa using h
    have hno' : ∀ (b : Bool), (b = true ↔ may l[i] = true ∧ (0 < i → ord l[i - 1] l[i] < 0)) → b = false → RightP ord may l → False := fun b hb hf hr => by
      have := hb.2 (hr i hlt)
      rw [hf] at this; cases this
    obtain ⟨bx, ox, cx, ea, ⟨ecx, hok⟩, hcx⟩ := (hl.le hle).el i l[i] (List.getElem?_eq_getElem hlt)
    subst ecx
    have ea' := ea
    subst ea
    repeat (first | refine cg_seq ?_ | refine cg_region ?_ | refine eg_then ?_ | refine qsp ?_ | refine qsi ?_ | refine qsg ?_ | refine cg_skip ?_ | refine cg_block ?_)
    refine rb rfl rfl rfl rfl (a_alloc rfl) ?_; intro b8 k8 hb8 hN8 hle8 hk8
    repeat (first | refine qsp ?_)
    refine rw1 (vs := l[i].vs) rfl rfl rfl rfl rfl rfl rfl hk8 rfl (.inl hN8) ?_ ?_
    · exact Way.one k l[i].vs l[i] ⟨rfl, hok⟩
    intro k9 ht9 hk9
    have c9 := cells_at (vs := l[i].vs) hk9 rfl
    have hle9 : Le k1 k9 := ht9 k1 hle8 hb8
    have hm' := hm k9 (hle.trans hle9) l[i] (List.getElem_mem hlt) hok
    repeat (first | refine cg_seq ?_ | refine rg_nil ?_ | refine eg_then ?_)
    refine cg_any (by kernel_rfl) rfl ?_
    repeat (first | refine qwp ?_ | refine qwg ?_)
    refine ws rfl (loc_call_is rfl rfl rfl rfl (hm')) ?_
    repeat (first | refine qwp ?_)
    have out : ¬ (may l[i] = true ∧ (0 < i → ord l[i - 1] l[i] < 0)) → decide (RightP ord may l) = false := fun h => decide_eq_false fun hr => h (hr i hlt)
    cases q1 : may l[i]
    · repeat (first | refine qwp ?_ | refine qwo ?_ | (refine wn rfl ?_; refine eg_then ?_))
      repeat (first | refine cg_seq ?_ | refine cg_region ?_ | refine rg_nil ?_ | refine eg_then ?_ | refine qsp ?_ | refine cg_cond_true rfl ?_ | refine cg_ret ?_ | refine eg_then_ret ?_ | refine eg_in_ret ?_)
      refine eg_return rfl rfl ?_
      rw [out (by simp [q1])]
    repeat (first | refine qwp ?_)
    cases q2 : decide ((i : Int) > 0)
    · have hi0 : i = 0 := by simp at q2; omega
      repeat (first | refine qwp ?_ | refine qwo ?_ | (refine wn rfl ?_; refine eg_then ?_))
      repeat (first | refine cg_region ?_ | refine rg_nil ?_ | refine eg_then ?_ | refine qsp ?_ | refine qsa ?_ | refine cg_cond_false rfl ?_ | refine cg_skip ?_ | refine eg_in_normal ?_)
      refine eg_again (i + 1) _ ⟨hle.trans hle9, hlt, fun j hj hji => ?_, rfl⟩ (by omega) ⟨rfl, rfl, rfl, rfl, rfl, rfl, trivial⟩
      have : j = i := by omega
      subst this
      exact ⟨q1, fun h => by omega⟩
    have hi0 : 0 < i := by simp at q2; omega
    obtain ⟨by', oy, cy, ey, ⟨ecy, hoky⟩, hcy⟩ := ((hl.le hle).le hle9).el (i - 1) l[i - 1] (List.getElem?_eq_getElem (by omega))
    subst ecy
    have ho' := ho k9 l[i - 1] l[i]
    simp only [Option.some.injEq, Addr.mk.injEq, and_true] at ey
    obtain ⟨rfl, rfl⟩ := ey
    repeat (first | refine qwp ?_ | refine qws ?_)
    rw [show ((i : Int) - 1) = ((i - 1 : Nat) : Int) by omega]
    repeat (first | refine qwi ?_ | refine qwg ?_)
    refine ws rfl (loc_call_is rfl rfl rfl rfl (ho')) ?_
    repeat (first | refine qwp ?_ | (refine wn rfl ?_; refine eg_then ?_))
    cases q3 : decide (ord l[i - 1] l[i] ≥ 0)
    · have hlt0 : ord l[i - 1] l[i] < 0 := by simp at q3; omega
      skip
      repeat (first | refine cg_region ?_ | refine rg_nil ?_ | refine eg_then ?_ | refine qsp ?_ | refine qsa ?_ | refine cg_cond_false rfl ?_ | refine cg_skip ?_ | refine eg_in_normal ?_)
      refine eg_again (i + 1) _ ⟨hle.trans hle9, hlt, fun j hj hji => ?_, rfl⟩ (by omega) ⟨rfl, rfl, rfl, rfl, rfl, rfl, trivial⟩
      by_cases e : j = i
      · subst e; exact ⟨q1, fun _ => hlt0⟩
      · exact hno j hj (by omega)
    · skip
      repeat (first | refine cg_seq ?_ | refine cg_region ?_ | refine rg_nil ?_ | refine eg_then ?_ | refine qsp ?_ | refine cg_cond_true rfl ?_ | refine cg_ret ?_ | refine eg_then_ret ?_ | refine eg_in_ret ?_)
      refine eg_return rfl rfl ?_
      rw [out (fun h => by have := h.2 hi0; simp at q3; omega)]
  · have hil : i = l.length := by simp at h; omega
    repeat (first | refine cg_seq ?_ | refine cg_region ?_ | refine rg_nil ?_ | refine eg_then ?_ | refine qsp ?_ | refine cg_ret ?_ | refine cg_exit ?_ | refine eg_then_exit ?_ | refine eg_in_exit ?_)
    refine eg_return rfl rfl ?_
    rw [decide_eq_true (show RightP ord may l from fun j hj => hno j hj (by omega))]

end Go.Wm

/-
  Members that rise, what may be a member, the State of members, the program's. Conditions: that what is handed in reads as data.
-/
import Derived.Test.YtbhgbfhgdccghaaGreatN2
set_option linter.all false
namespace Go.Wm
open Go.RowKit Go.Proofs
attribute [local irreducible] RG CG EG WA Loc Det Alc CT Exit.then Exit.inBlock Code.wp bodyPost
set_option maxHeartbeats 1000000 in
theorem rightMem_ct {k : PH} {a : Option Addr} {c : Nat} {l : List Member} (hl : Sl tMember k a c l) {g1 g2 : FuncId} [FnOk Tryz.prog g1] [FnOk Tryz.prog g2] {cap2 : Array Value} (ord : Member → Member → Int) (may : Member → Bool)
    (ho : ∀ k0 (x y : Member) a0 a1 b0 b1 c0 c1 d0 d1, CT Tryz.prog g1 #[.agg (x.cs a0 c0 a1 c1).toArray, .agg (y.cs b0 d0 b1 d1).toArray] k0 (fun _ v => v = .int .i64 (ord x y)))
    (hm : ∀ k0, Le k k0 → ∀ x ∈ l, ∀ cm, tMember.rep k0 cm x → CT Tryz.prog g2 (#[] ++ [.agg cm.toArray].toArray ++ cap2) k0 (fun _ v => v = .bool (may x))) :
    CT Tryz.prog 61 #[.slice a l.length c, .func (.func g1) #[] #[], .func (.func g2) #[] cap2] k (fun _ v => v = .bool (decide (RightP ord may l))) := by
  refine ct_of_body (l := [_, _, _]) Tryz.func61 rfl Tryz.ntmps61 (by simp) (fun _ _ _ _ h => h) fun F hF0 hFm => ?_
  have b1 := hl.cap; have b2 := hl.max; unfold maxLen at b2
  repeat (first | refine cg_seq ?_ | refine cg_region ?_ | refine rg_nil ?_ | refine eg_then ?_ | refine qsp ?_ | refine qsn ?_ | refine cg_block ?_)
  refine cg_loop (fun (i : Nat) e k' => Le k k' ∧ i ≤ l.length ∧ (∀ j, (h : j < l.length) → j < i → may l[j] = true ∧ (0 < j → ord l[j - 1] l[j] < 0)) ∧ e = [(0, .is (.slice a l.length c)), (1, .is (.func (.func g1) #[] #[])), (2, .is (.func (.func g2) #[] cap2)), (9, .is (.slice a l.length c)), (10, .is (.int .i64 (l.length : Int))), (11, .is (.int .i64 (i : Int)))])
    (fun i => l.length - i) 0 ⟨Le.refl _, Nat.zero_le _, fun j _ hj => by omega, rfl⟩ ⟨rfl, rfl, rfl, rfl, rfl, rfl, trivial⟩ ?_
  rintro i e k1 ⟨hle, hi, hno, rfl⟩
  repeat (first | refine cg_seq ?_ | refine cg_region ?_ | refine rg_nil ?_ | refine eg_then ?_ | refine qsp ?_)
  refine cg_cond rfl (fun h => ?_) (fun h => ?_)
  · have hlt : i < l.length := by simpa using h
    have hno' : ∀ (b : Bool), (b = true ↔ may l[i] = true ∧ (0 < i → ord l[i - 1] l[i] < 0)) → b = false → RightP ord may l → False := fun b hb hf hr => by
      have := hb.2 (hr i hlt)
      rw [hf] at this; cases this
    obtain ⟨bx, ox, cx, ea, ⟨a0, c0, a1, c1, ecx, hsl, hok⟩, hcx⟩ := (hl.le hle).el i l[i] (List.getElem?_eq_getElem hlt)
    subst ecx
    have ea' := ea
    subst ea
    repeat (first | refine cg_seq ?_ | refine cg_region ?_ | refine eg_then ?_ | refine qsp ?_ | refine qsi ?_ | refine qsg ?_ | refine cg_skip ?_ | refine cg_block ?_)
    refine rb rfl rfl rfl rfl (a_alloc rfl) ?_; intro b8 k8 hb8 hN8 hle8 hk8
    repeat (first | refine qsp ?_)
    refine rw1 (vs := l[i].cs a0 c0 a1 c1) rfl rfl rfl rfl rfl rfl rfl hk8 rfl (.inl hN8) ?_ ?_
    · exact Member.one k1 _ l[i] ⟨a0, c0, a1, c1, rfl, hsl, hok⟩
    intro k9 ht9 hk9
    have c9 := cells_at (vs := l[i].cs a0 c0 a1 c1) hk9 rfl
    have hle9 : Le k1 k9 := ht9 k1 hle8 hb8
    have hm' := hm k9 (hle.trans hle9) l[i] (List.getElem_mem hlt) _ (tMember.mono hle9 ⟨a0, c0, a1, c1, rfl, hsl, hok⟩)
    repeat (first | refine cg_seq ?_ | refine rg_nil ?_ | refine eg_then ?_)
    refine cg_any (by kernel_rfl) rfl ?_
    repeat (first | refine qwp ?_ | refine qwg ?_)
    refine ws rfl (loc_call_is rfl rfl rfl rfl (hm')) ?_
    repeat (first | refine qwp ?_)
    have out : ¬ (may l[i] = true ∧ (0 < i → ord l[i - 1] l[i] < 0)) → decide (RightP ord may l) = false := fun h => decide_eq_false fun hr => h (hr i hlt)
    cases q1 : may l[i]
    · repeat (first | refine qwp ?_ | refine qwo ?_ | (refine wn rfl ?_; refine eg_then ?_))
      repeat (first | refine cg_seq ?_ | refine cg_region ?_ | refine rg_nil ?_ | refine eg_then ?_ | refine qsp ?_ | refine cg_cond_true rfl ?_ | refine cg_ret ?_ | refine eg_then_ret ?_ | refine eg_in_ret ?_)
      refine eg_return rfl rfl ?_
      rw [out (by simp [q1])]
    repeat (first | refine qwp ?_)
    cases q2 : decide ((i : Int) > 0)
    · have hi0 : i = 0 := by simp at q2; omega
      repeat (first | refine qwp ?_ | refine qwo ?_ | (refine wn rfl ?_; refine eg_then ?_))
      repeat (first | refine cg_region ?_ | refine rg_nil ?_ | refine eg_then ?_ | refine qsp ?_ | refine qsa ?_ | refine cg_cond_false rfl ?_ | refine cg_skip ?_ | refine eg_in_normal ?_)
      refine eg_again (i + 1) _ ⟨hle.trans hle9, hlt, fun j hj hji => ?_, rfl⟩ (by omega) ⟨rfl, rfl, rfl, rfl, rfl, rfl, trivial⟩
      have : j = i := by omega
      subst this
      exact ⟨q1, fun h => by omega⟩
    have hi0 : 0 < i := by simp at q2; omega
    obtain ⟨by', oy, cy, ey, ⟨b0, d0, e1, d1, ecy, hsy, hoky⟩, hcy⟩ := ((hl.le hle).le hle9).el (i - 1) l[i - 1] (List.getElem?_eq_getElem (by omega))
    subst ecy
    have ho' := ho k9 l[i - 1] l[i] b0 e1 a0 a1 d0 d1 c0 c1
    simp only [Option.some.injEq, Addr.mk.injEq, and_true] at ey
    obtain ⟨rfl, rfl⟩ := ey
    repeat (first | refine qwp ?_ | refine qws ?_)
    rw [show ((i : Int) - 1) = ((i - 1 : Nat) : Int) by omega]
    repeat (first | refine qwi ?_ | refine qwg ?_)
    refine ws rfl (loc_call_is rfl rfl rfl rfl (ho')) ?_
    repeat (first | refine qwp ?_ | (refine wn rfl ?_; refine eg_then ?_))
    cases q3 : decide (ord l[i - 1] l[i] ≥ 0)
    · have hlt0 : ord l[i - 1] l[i] < 0 := by simp at q3; omega
      skip
      repeat (first | refine cg_region ?_ | refine rg_nil ?_ | refine eg_then ?_ | refine qsp ?_ | refine qsa ?_ | refine cg_cond_false rfl ?_ | refine cg_skip ?_ | refine eg_in_normal ?_)
      refine eg_again (i + 1) _ ⟨hle.trans hle9, hlt, fun j hj hji => ?_, rfl⟩ (by omega) ⟨rfl, rfl, rfl, rfl, rfl, rfl, trivial⟩
      by_cases e : j = i
      · subst e; exact ⟨q1, fun _ => hlt0⟩
      · exact hno j hj (by omega)
    · skip
      repeat (first | refine cg_seq ?_ | refine cg_region ?_ | refine rg_nil ?_ | refine eg_then ?_ | refine qsp ?_ | refine cg_cond_true rfl ?_ | refine cg_ret ?_ | refine eg_then_ret ?_ | refine eg_in_ret ?_)
      refine eg_return rfl rfl ?_
      rw [out (fun h => by have := h.2 hi0; simp at q3; omega)]
  · have hil : i = l.length := by simp at h; omega
    repeat (first | refine cg_seq ?_ | refine cg_region ?_ | refine rg_nil ?_ | refine eg_then ?_ | refine qsp ?_ | refine cg_ret ?_ | refine cg_exit ?_ | refine eg_then_exit ?_ | refine eg_in_exit ?_)
    refine eg_return rfl rfl ?_
    rw [decide_eq_true (show RightP ord may l from fun j hj => hno j hj (by omega))]

set_option maxHeartbeats 1000000 in
theorem rightStr_ct {k : PH} {a : Option Addr} {c : Nat} {l : List ByteArray} (hl : Sl tStr k a c l) {g1 g2 : FuncId} [FnOk Tryz.prog g1] [FnOk Tryz.prog g2] {cap2 : Array Value} (ord : ByteArray → ByteArray → Int) (may : ByteArray → Bool)
    (ho : ∀ k0 x y, CT Tryz.prog g1 #[.string x, .string y] k0 (fun _ v => v = .int .i64 (ord x y)))
    (hm : ∀ k0, Le k k0 → ∀ x ∈ l, x.size ≤ maxLen → CT Tryz.prog g2 (#[] ++ [.string x].toArray ++ cap2) k0 (fun _ v => v = .bool (may x))) :
    CT Tryz.prog 95 #[.slice a l.length c, .func (.func g1) #[] #[], .func (.func g2) #[] cap2] k (fun _ v => v = .bool (decide (RightP ord may l))) := by
  refine ct_of_body (l := [_, _, _]) Tryz.func95 rfl Tryz.ntmps95 (by simp) (fun _ _ _ _ h => h) fun F hF0 hFm => ?_
  have b1 := hl.cap; have b2 := hl.max; unfold maxLen at b2
  repeat (first | refine cg_seq ?_ | refine cg_region ?_ | refine rg_nil ?_ | refine eg_then ?_ | refine qsp ?_ | refine qsn ?_ | refine cg_block ?_)
  refine cg_loop (fun (i : Nat) e k' => Le k k' ∧ i ≤ l.length ∧ (∀ j, (h : j < l.length) → j < i → may l[j] = true ∧ (0 < j → ord l[j - 1] l[j] < 0)) ∧ e = [(0, .is (.slice a l.length c)), (1, .is (.func (.func g1) #[] #[])), (2, .is (.func (.func g2) #[] cap2)), (9, .is (.slice a l.length c)), (10, .is (.int .i64 (l.length : Int))), (11, .is (.int .i64 (i : Int)))])
    (fun i => l.length - i) 0 ⟨Le.refl _, Nat.zero_le _, fun j _ hj => by omega, rfl⟩ ⟨rfl, rfl, rfl, rfl, rfl, rfl, trivial⟩ ?_
  rintro i e k1 ⟨hle, hi, hno, rfl⟩
  repeat (first | refine cg_seq ?_ | refine cg_region ?_ | refine rg_nil ?_ | refine eg_then ?_ | refine qsp ?_)
  refine cg_cond rfl (fun h => ?_) (fun h => ?_)
  · have hlt : i < l.length := by simpa using h
    have hno' : ∀ (b : Bool), (b = true ↔ may l[i] = true ∧ (0 < i → ord l[i - 1] l[i] < 0)) → b = false → RightP ord may l → False := fun b hb hf hr => by
      have := hb.2 (hr i hlt)
      rw [hf] at this; cases this
    obtain ⟨bx, ox, cx, ea, ⟨ecx, hok⟩, hcx⟩ := (hl.le hle).el i l[i] (List.getElem?_eq_getElem hlt)
    subst ecx
    have ea' := ea
    subst ea
    have hm' := hm k1 hle l[i] (List.getElem_mem hlt) hok
    repeat (first | refine cg_seq ?_ | refine cg_region ?_ | refine rg_nil ?_ | refine eg_then ?_ | refine qsp ?_ | refine qsi ?_ | refine qsl ?_ | refine cg_skip ?_ | refine cg_block ?_)
    refine rs rfl rfl (loc_call_is rfl rfl rfl rfl (hm')) ?_
    repeat (first | refine qsp ?_)
    have out : ¬ (may l[i] = true ∧ (0 < i → ord l[i - 1] l[i] < 0)) → decide (RightP ord may l) = false := fun h => decide_eq_false fun hr => h (hr i hlt)
    cases q1 : may l[i]
    · repeat (first | refine cg_seq ?_ | refine cg_region ?_ | refine rg_nil ?_ | refine eg_then ?_ | refine qsp ?_ | refine qso ?_ | refine cg_cond_true rfl ?_ | refine cg_ret ?_ | refine eg_then_ret ?_ | refine eg_in_ret ?_)
      refine eg_return rfl rfl ?_
      rw [out (by simp [q1])]
    repeat (first | refine qsp ?_)
    cases q2 : decide ((i : Int) > 0)
    · have hi0 : i = 0 := by simp at q2; omega
      repeat (first | refine cg_region ?_ | refine rg_nil ?_ | refine eg_then ?_ | refine qsp ?_ | refine qsa ?_ | refine qso ?_ | refine cg_cond_false rfl ?_ | refine cg_skip ?_ | refine eg_in_normal ?_)
      refine eg_again (i + 1) _ ⟨hle, hlt, fun j hj hji => ?_, rfl⟩ (by omega) ⟨rfl, rfl, rfl, rfl, rfl, rfl, trivial⟩
      have : j = i := by omega
      subst this
      exact ⟨q1, fun h => by omega⟩
    have hi0 : 0 < i := by simp at q2; omega
    obtain ⟨by', oy, cy, ey, ⟨ecy, hoky⟩, hcy⟩ := (hl.le hle).el (i - 1) l[i - 1] (List.getElem?_eq_getElem (by omega))
    subst ecy
    have ho' := ho k1 l[i - 1] l[i]
    simp only [Option.some.injEq, Addr.mk.injEq, and_true] at ey
    obtain ⟨rfl, rfl⟩ := ey
    repeat (first | refine qsp ?_ | refine qss ?_)
    rw [show ((i : Int) - 1) = ((i - 1 : Nat) : Int) by omega]
    repeat (first | refine qsp ?_ | refine qsi ?_ | refine qsl ?_)
    refine rs rfl rfl (loc_call_is rfl rfl rfl rfl (ho')) ?_
    repeat (first | refine rg_nil ?_ | refine eg_then ?_ | refine qsp ?_)
    cases q3 : decide (ord l[i - 1] l[i] ≥ 0)
    · have hlt0 : ord l[i - 1] l[i] < 0 := by simp at q3; omega
      repeat (first | refine cg_region ?_ | refine rg_nil ?_ | refine eg_then ?_ | refine qsp ?_ | refine qsa ?_ | refine cg_cond_false rfl ?_ | refine cg_skip ?_ | refine eg_in_normal ?_)
      refine eg_again (i + 1) _ ⟨hle, hlt, fun j hj hji => ?_, rfl⟩ (by omega) ⟨rfl, rfl, rfl, rfl, rfl, rfl, trivial⟩
      by_cases e : j = i
      · subst e; exact ⟨q1, fun _ => hlt0⟩
      · exact hno j hj (by omega)
    · repeat (first | refine cg_seq ?_ | refine cg_region ?_ | refine rg_nil ?_ | refine eg_then ?_ | refine qsp ?_ | refine cg_cond_true rfl ?_ | refine cg_ret ?_ | refine eg_then_ret ?_ | refine eg_in_ret ?_)
      refine eg_return rfl rfl ?_
      rw [out (fun h => by have := h.2 hi0; simp at q3; omega)]
  · have hil : i = l.length := by simp at h; omega
    repeat (first | refine cg_seq ?_ | refine cg_region ?_ | refine rg_nil ?_ | refine eg_then ?_ | refine qsp ?_ | refine cg_ret ?_ | refine cg_exit ?_ | refine eg_then_exit ?_ | refine eg_in_exit ?_)
    refine eg_return rfl rfl ?_
    rw [decide_eq_true (show RightP ord may l from fun j hj => hno j hj (by omega))]

theorem riseStr_ct {k : PH} {a : Option Addr} {c : Nat} {l : List ByteArray} (hl : Sl tStr k a c l) : CT Tryz.prog 95 #[.slice a l.length c, .func (.func 65) #[] #[], .func (.func 48) #[] #[]] k (fun _ v => v = .bool (decide (RightP cmpStr isName l))) :=
  rightStr_ct hl cmpStr isName (fun k0 x y => strCompare_ct x y) (fun k0 _ x _ hx => name_ct x hx)
theorem riseTp_ct {k : PH} {a : Option Addr} {c : Nat} {l : List Tp} (hl : Sl tTp k a c l) : CT Tryz.prog 27 #[.slice a l.length c, .func (.func 28) #[] #[], .func (.func 29) #[] #[]] k (fun _ v => v = .bool (decide (RightP ordTp tpOk l))) :=
  rightTp_ct hl ordTp tpOk (fun k0 x y => compareTp_ct x y) (fun k0 _ x _ hx => partition_ct x hx)
set_option maxHeartbeats 1000000 in
theorem member_ct {k : PH} {m : Member} {cm : List Value} (hm : tMember.rep k cm m) : CT Tryz.prog 49 #[.agg cm.toArray] k (fun _ v => v = .bool (memOk m)) := by
  obtain ⟨a0, c0, a1, c1, rfl, ⟨hs, ho⟩, hok⟩ := hm
  obtain ⟨o1, o2, _⟩ := hok
  refine ct_of_body (l := [_]) Tryz.func49 rfl Tryz.ntmps49 (by simp) (fun _ _ _ _ h => h) fun F hF0 hFm => ?_
  have b1 := hs.cap; have b2 := hs.max; have b3 := ho.cap; have b4 := ho.max; unfold maxLen at b2 b4
  unfold memOk
  repeat (first | refine cg_seq ?_ | refine cg_region ?_)
  refine rb rfl rfl rfl rfl (a_box rfl rfl) ?_; intro b2' k2 hb2 hN2 hle2 hk2
  have hs := hs.le hle2
  have ho := ho.le hle2
  obtain ⟨p0, p1, p2, p3, p4, p5⟩ := Member.parts (cells_at (vs := m.cs a0 c0 a1 c1) hk2 rfl)
  repeat (first | refine cg_seq ?_ | refine cg_region ?_ | refine rg_nil ?_ | refine eg_then ?_ | refine qsp ?_ | refine qsl ?_ | refine qsf ?_)
  refine rs rfl rfl (loc_call_is rfl rfl rfl rfl (name_ct m.id o1)) ?_
  cases q1 : isName m.id
  · repeat (first | refine rg_nil ?_ | refine eg_then ?_ | refine qsp ?_ | refine qso ?_ | refine cg_ret ?_)
    exact eg_return rfl rfl rfl
  repeat (first | refine qsp ?_ | refine qsl ?_ | refine qsf ?_)
  have e5 : decide (m.subs.length ≤ 12) = decide ((m.subs.length : Int) ≤ 12) := by rw [decide_eq_decide]; omega
  rw [e5]
  cases q2 : decide (m.static = ⟨#[]⟩)
  · repeat (first | refine qsl ?_ | refine qsf ?_)
    refine rs rfl rfl (loc_call_is rfl rfl rfl rfl (name_ct m.static o2)) ?_
    cases q3 : isName m.static
    · repeat (first | refine rg_nil ?_ | refine eg_then ?_ | refine qsp ?_ | refine qso ?_ | refine cg_ret ?_)
      exact eg_return rfl rfl rfl
    repeat (first | refine qsp ?_ | refine qsl ?_ | refine qsf ?_)
    refine rs rfl rfl (loc_call_is rfl rfl rfl rfl (time_ct m.beat)) ?_
    cases q4 : timeOk m.beat
    · repeat (first | refine rg_nil ?_ | refine eg_then ?_ | refine qsp ?_ | refine qso ?_ | refine cg_ret ?_)
      exact eg_return rfl rfl rfl
    repeat (first | refine qsp ?_ | refine qsn ?_ | refine qsl ?_ | refine qsf ?_)
    cases q5 : decide ((m.subs.length : Int) ≤ 12)
    · repeat (first | refine rg_nil ?_ | refine eg_then ?_ | refine qsp ?_ | refine qso ?_ | refine cg_ret ?_)
      exact eg_return rfl rfl rfl
    repeat (first | refine qsl ?_ | refine qsf ?_)
    refine rs rfl rfl (loc_call_is rfl rfl rfl rfl (riseStr_ct hs)) ?_
    cases q6 : decide (RightP cmpStr isName m.subs)
    · repeat (first | refine rg_nil ?_ | refine eg_then ?_ | refine qsp ?_ | refine qso ?_ | refine cg_ret ?_)
      exact eg_return rfl rfl rfl
    repeat (first | refine qsp ?_ | refine qsl ?_ | refine qsf ?_)
    refine rs rfl rfl (loc_call_is rfl rfl rfl rfl (riseTp_ct ho)) ?_
    repeat (first | refine rg_nil ?_ | refine eg_then ?_ | refine qsp ?_ | refine cg_ret ?_)
    exact eg_return rfl rfl rfl
  · repeat (first | refine qsp ?_ | refine qsl ?_ | refine qsf ?_ | refine qso ?_)
    refine rs rfl rfl (loc_call_is rfl rfl rfl rfl (time_ct m.beat)) ?_
    cases q4 : timeOk m.beat
    · repeat (first | refine rg_nil ?_ | refine eg_then ?_ | refine qsp ?_ | refine qso ?_ | refine cg_ret ?_)
      exact eg_return rfl rfl rfl
    repeat (first | refine qsp ?_ | refine qsn ?_ | refine qsl ?_ | refine qsf ?_)
    cases q5 : decide ((m.subs.length : Int) ≤ 12)
    · repeat (first | refine rg_nil ?_ | refine eg_then ?_ | refine qsp ?_ | refine qso ?_ | refine cg_ret ?_)
      exact eg_return rfl rfl rfl
    repeat (first | refine qsl ?_ | refine qsf ?_)
    refine rs rfl rfl (loc_call_is rfl rfl rfl rfl (riseStr_ct hs)) ?_
    cases q6 : decide (RightP cmpStr isName m.subs)
    · repeat (first | refine rg_nil ?_ | refine eg_then ?_ | refine qsp ?_ | refine qso ?_ | refine cg_ret ?_)
      exact eg_return rfl rfl rfl
    repeat (first | refine qsp ?_ | refine qsl ?_ | refine qsf ?_)
    refine rs rfl rfl (loc_call_is rfl rfl rfl rfl (riseTp_ct ho)) ?_
    repeat (first | refine rg_nil ?_ | refine eg_then ?_ | refine qsp ?_ | refine cg_ret ?_)
    exact eg_return rfl rfl rfl
set_option maxHeartbeats 400000 in
theorem state1_ct {k : PH} {m : Member} {cm : List Value} (hm : tMember.rep k cm m) : CT Tryz.prog 101 #[.agg cm.toArray] k (fun _ v => v = .bool (!m.joined)) := by
  obtain ⟨a0, c0, a1, c1, rfl, _, _⟩ := hm
  refine ct_of_body (l := [_]) Tryz.func101 rfl Tryz.ntmps101 (by simp) (fun _ _ _ _ h => h) fun F hF0 hFm => ?_
  repeat (first | refine cg_seq ?_ | refine cg_region ?_)
  refine rb rfl rfl rfl rfl (a_box rfl rfl) ?_; intro b2 k2 hb2 hN2 hle2 hk2
  obtain ⟨p0, p1, p2, p3, p4, p5⟩ := Member.parts (cells_at (vs := m.cs a0 c0 a1 c1) hk2 rfl)
  repeat (first | refine cg_seq ?_ | refine cg_region ?_ | refine rg_nil ?_ | refine eg_then ?_ | refine qsp ?_ | refine qsl ?_ | refine qsf ?_ | refine cg_ret ?_)
  exact eg_return rfl rfl rfl
theorem state_ct {k : PH} {a : Option Addr} {c : Nat} {l : List Member} (hl : Sl tMember k a c l) : CT Tryz.prog 60 #[.slice a l.length c] k (fun _ v => v = .int .i64 (stateG l)) := by
  refine ct_of_body (l := [_]) Tryz.func60 rfl Tryz.ntmps60 (by simp) (fun _ _ _ _ h => h) fun F hF0 hFm => ?_
  have b1 := hl.cap; have b2 := hl.max; unfold maxLen at b2
  unfold stateG
  repeat (first | refine cg_seq ?_ | refine cg_region ?_ | refine rg_nil ?_ | refine eg_then ?_ | refine qsp ?_ | refine qsn ?_ | refine cg_block ?_)
  cases q1 : ((l.length : Int) == 0)
  case true =>
    rw [if_pos (by simpa using q1)]
    repeat (first | refine cg_seq ?_ | refine cg_region ?_ | refine rg_nil ?_ | refine eg_then ?_ | refine qsp ?_ | refine cg_cond_true rfl ?_ | refine cg_ret ?_ | refine eg_then_ret ?_ | refine eg_in_ret ?_)
    exact eg_return rfl rfl rfl
  rw [if_neg (by simpa using q1)]
  repeat (first | refine cg_seq ?_ | refine cg_region ?_ | refine qsp ?_ | refine cg_cond_false rfl ?_)
  refine rs rfl rfl (loc_call_is rfl rfl rfl rfl (containsFuncMem_ct hl (g := 101) (cap := #[]) (fun m => !m.joined) (fun m _ cm hcm => state1_ct hcm))) ?_
  repeat (first | refine rg_nil ?_ | refine eg_then ?_ | refine qsp ?_)
  cases q2 : l.any (fun m => !m.joined)
  · repeat (first | refine cg_seq ?_ | refine cg_region ?_ | refine rg_nil ?_ | refine eg_then ?_ | refine qsp ?_ | refine cg_cond_false rfl ?_ | refine cg_skip ?_ | refine eg_in_normal ?_ | refine cg_ret ?_)
    exact eg_return rfl rfl rfl
  · repeat (first | refine cg_seq ?_ | refine cg_region ?_ | refine rg_nil ?_ | refine eg_then ?_ | refine qsp ?_ | refine cg_cond_true rfl ?_ | refine cg_ret ?_ | refine eg_then_ret ?_ | refine eg_in_ret ?_)
    exact eg_return rfl rfl rfl
theorem riseMem_ct {k : PH} {a : Option Addr} {c : Nat} {l : List Member} (hl : Sl tMember k a c l) : CT Tryz.prog 61 #[.slice a l.length c, .func (.func 62) #[] #[], .func (.func 49) #[] #[]] k (fun _ v => v = .bool (decide (RightP ordId memOk l))) :=
  rightMem_ct hl ordId memOk (fun k0 x y a0 a1 b0 b1 c0 c1 d0 d1 => ids_ct x y a0 a1 b0 b1 c0 c1 d0 d1) (fun k0 _ x _ cm hcm => member_ct hcm)
end Go.Wm

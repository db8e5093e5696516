/-
  Orders, what may be a partition, lists that rise, the program's. Conditions: that what is handed in reads as data.
-/
import Derived.Test.YtbhgbfhgdccghaaGreatS9
import Derived.Test.YtbhgbfhgdccghaaGreatN00
set_option linter.all false
namespace Go.Wm
open Go.RowKit Go.Proofs
section
variable {P : Program} {o : Oper} {e : Env} {k : PH}
theorem d_cmpstr {x y z : Operand} {f : FuncId} {fn : Func} {ats : Array TypeId} {a b : ByteArray} (hop : o.op = .call { callee := .value x, args := #[y, z], argTypes := ats }) (hx : opv e x = some (.func (.func f) #[] #[])) (hy : opv e y = some (.string a)) (hz : opv e z = some (.string b))
    (hf : P.funcs[f]? = some fn) (hname : (fn.name == "runtime.NumGoroutine") = false) (hb : fn.body.isNone = true) (hn : Extern.findNext fn = none) (he : Extern.find fn = some Extern.BytealgCompare.compare) : Det P e k o (.int .i64 (Lib.compareBytes a.data.toList b.data.toList)) := by
  intro ev w hev _
  rw [hop] at hev
  have e1 := hev x (by simp [Op.operands, Call.operands]) _ hx
  have e2 := hev y (by simp [Op.operands, Call.operands]) _ hy
  have e3 := hev z (by simp [Op.operands, Call.operands]) _ hz
  have h := run_callFunc_extern hf hname hb hn he #[.string a, .string b] w
  rw [Lib.run_compareString] at h
  simp only [Result.andThen] at h
  simp [execOp, hop, resolve, Deferred.ofValue, invoke, e1, e2, e3, h]
end

attribute [local irreducible] RG CG EG WA Loc Det Alc CT Exit.then Exit.inBlock Code.wp bodyPost
theorem sl_flat {α : Type} {T : Ty α} {f : α → List Value} {k : PH} {b : Nat} {c : Array Value} {et : TypeId} {fr : Nat × Nat} {xs : List α} (h : k b = some (.cells c et fr)) (hc : c.toList = xs.flatMap f) (hr : ∀ x ∈ xs, T.rep k (f x) x) (hm : xs.length ≤ maxLen) : Sl T k (some ⟨b, 0, none⟩) xs.length xs :=
  sl_rows (css := xs.map f) h (by rw [hc]; simp [List.flatMap]) (by simp) (fun i cs x h1 h2 => by
    rw [List.getElem?_map, h2] at h1
    cases h1
    exact hr x (List.mem_of_getElem? h2)) hm

theorem cmpString_ct {k : PH} (a b : ByteArray) : CT Tryz.prog 102 #[.string a, .string b] k (fun _ v => v = .int .i64 (cmpStr a b)) := by
  refine ct_of_body (l := [_, _]) Tryz.func102 rfl Tryz.ntmps102 (by simp) (fun _ _ _ _ h => h) fun F hF0 hFm => ?_
  repeat (first | refine cg_seq ?_ | refine cg_region ?_ | refine rg_nil ?_ | refine eg_then ?_ | refine qsp ?_)
  refine rs rfl rfl (loc_det rfl (d_cmpstr rfl rfl rfl rfl Tryz.func114 (by kernel_rfl) (by kernel_rfl) (by kernel_rfl) (by kernel_rfl))) ?_
  repeat (first | refine rg_nil ?_ | refine eg_then ?_ | refine qsp ?_ | refine cg_ret ?_)
  rw [cmpStr_bytes]
  exact eg_return rfl rfl rfl
theorem strCompare_ct {k : PH} (a b : ByteArray) : CT Tryz.prog 65 #[.string a, .string b] k (fun _ v => v = .int .i64 (cmpStr a b)) := by
  refine ct_of_body (l := [_, _]) Tryz.func65 rfl Tryz.ntmps65 (by simp) (fun _ _ _ _ h => h) fun F hF0 hFm => ?_
  repeat (first | refine cg_seq ?_ | refine cg_region ?_ | refine rg_nil ?_ | refine eg_then ?_ | refine qsp ?_)
  refine rs rfl rfl (loc_call_is rfl rfl rfl rfl (cmpString_ct a b)) ?_
  repeat (first | refine rg_nil ?_ | refine eg_then ?_ | refine qsp ?_ | refine cg_ret ?_)
  exact eg_return rfl rfl rfl
theorem cmpI64 (a b : Int) : I64 (cmpInt a b) := by unfold I64 cmpInt; split <;> (try split) <;> omega
theorem cmpS64 (a b : ByteArray) : I64 (cmpStr a b) := by unfold I64 cmpStr; split <;> (try split) <;> omega
set_option maxHeartbeats 400000 in
theorem compareTp_ct {k : PH} (a b : Tp) : CT Tryz.prog 28 #[.agg a.vs.toArray, .agg b.vs.toArray] k (fun _ v => v = .int .i64 (ordTp a b)) := by
  refine ct_of_body (l := [_, _]) Tryz.func28 rfl Tryz.ntmps28 (by simp) (fun _ _ _ _ h => h) fun F hF0 hFm => ?_
  repeat (first | refine cg_seq ?_ | refine cg_region ?_)
  refine rb rfl rfl rfl rfl (a_box rfl rfl) ?_; intro b2 k2 hb2 hN2 hle2 hk2
  skip
  refine rb rfl rfl rfl rfl (a_box rfl rfl) ?_; intro b3 k3 hb3 hN3 hle3 hk3
  have c2 := (cells_at (vs := a.vs) hk2 rfl).le hle3
  have c3 := cells_at (vs := b.vs) hk3 rfl
  obtain ⟨p0, p1, p2⟩ := Tp.parts c2
  obtain ⟨p3, p4, p5⟩ := Tp.parts c3
  repeat (first | refine cg_seq ?_ | refine rg_nil ?_ | refine eg_then ?_ | refine qsp ?_)
  refine cg_fresh 15 [] (by kernel_rfl) (by kernel_rfl) rfl rfl rfl ?_
  dsimp only [List.take]
  repeat (first | refine qfl ?_ | refine qff ?_)
  refine fs_s rfl (loc_call_is rfl rfl rfl rfl (strCompare_ct a.topic b.topic)) rfl ?_
  repeat (first | refine qfl ?_ | refine qff ?_)
  refine fs_s rfl (loc_call_is rfl rfl rfl rfl (compareInt_ct a.part b.part)) rfl ?_
  repeat (first | refine qfl ?_ | refine qff ?_)
  refine fs_s rfl (loc_call_is rfl rfl rfl rfl (compareInt_ct a.home b.home)) rfl ?_
  skip
  refine fs_nil ?_
  intro k9 vs hle9 _ _ _
  dsimp only [List.drop, nameE, nameP]
  refine rb rfl rfl rfl rfl (a_slice (cells := [cmpStr a.topic b.topic, cmpInt a.part b.part, cmpInt a.home b.home].flatMap fun n => [Value.int .i64 n]) rfl rfl rfl rfl (by kernel_rfl) rfl) ?_; intro b11 k11 hb11 hN11 hle11 hk11
  have hsl : Sl tInt k11 (some ⟨b11, 0, none⟩) 3 [cmpStr a.topic b.topic, cmpInt a.part b.part, cmpInt a.home b.home] := sl_flat (xs := [cmpStr a.topic b.topic, cmpInt a.part b.part, cmpInt a.home b.home]) (f := fun n => [Value.int .i64 n]) hk11 rfl (fun x hx => ⟨rfl, by
      simp only [List.mem_cons, List.not_mem_nil, or_false] at hx
      rcases hx with rfl | rfl | rfl
      · exact cmpS64 _ _
      · exact cmpI64 _ _
      · exact cmpI64 _ _⟩) (by simp [maxLen])
  skip
  refine rs rfl rfl (loc_call_is rfl rfl rfl rfl (or_ct hsl)) ?_
  repeat (first | refine rg_nil ?_ | refine eg_then ?_ | refine qsp ?_ | refine cg_ret ?_)
  exact eg_return rfl rfl rfl
set_option maxHeartbeats 400000 in
theorem partition_ct {k : PH} (t : Tp) (ht : t.ok) : CT Tryz.prog 29 #[.agg t.vs.toArray] k (fun _ v => v = .bool (tpOk t)) := by
  refine ct_of_body (l := [_]) Tryz.func29 rfl Tryz.ntmps29 (by simp) (fun _ _ _ _ h => h) fun F hF0 hFm => ?_
  obtain ⟨h1, h2, h3⟩ := ht
  unfold tpOk
  repeat (first | refine cg_seq ?_ | refine cg_region ?_)
  refine rb rfl rfl rfl rfl (a_box rfl rfl) ?_; intro b2 k2 hb2 hN2 hle2 hk2
  obtain ⟨p0, p1, p2⟩ := Tp.parts (cells_at (vs := t.vs) hk2 rfl)
  repeat (first | refine cg_seq ?_ | refine cg_region ?_ | refine rg_nil ?_ | refine eg_then ?_ | refine qsp ?_ | refine qsl ?_ | refine qsf ?_)
  refine rs rfl rfl (loc_call_is rfl rfl rfl rfl (name_ct t.topic h1)) ?_
  cases q1 : isName t.topic
  · repeat (first | refine rg_nil ?_ | refine eg_then ?_ | refine qsp ?_ | refine qso ?_ | refine cg_ret ?_)
    exact eg_return rfl rfl rfl
  repeat (first | refine qsp ?_ | refine qsl ?_ | refine qsf ?_)
  cases q2 : decide (0 ≤ t.part)
  · repeat (first | refine rg_nil ?_ | refine eg_then ?_ | refine qsp ?_ | refine qso ?_ | refine cg_ret ?_)
    exact eg_return rfl rfl rfl
  repeat (first | refine qsp ?_ | refine qsl ?_ | refine qsf ?_)
  cases q3 : decide (t.part < 6)
  · repeat (first | refine rg_nil ?_ | refine eg_then ?_ | refine qsp ?_ | refine qso ?_ | refine cg_ret ?_)
    exact eg_return rfl rfl rfl
  repeat (first | refine qsp ?_ | refine qsl ?_ | refine qsf ?_)
  cases q4 : decide (0 ≤ t.home)
  · repeat (first | refine rg_nil ?_ | refine eg_then ?_ | refine qsp ?_ | refine qso ?_ | refine cg_ret ?_)
    exact eg_return rfl rfl rfl
  repeat (first | refine rg_nil ?_ | refine eg_then ?_ | refine qsp ?_ | refine qsl ?_ | refine qsf ?_ | refine cg_ret ?_)
  exact eg_return rfl rfl rfl
theorem time_ct {k : PH} (n : Int) : CT Tryz.prog 26 #[.int .i64 n] k (fun _ v => v = .bool (timeOk n)) := by
  refine ct_of_body (l := [_]) Tryz.func26 rfl Tryz.ntmps26 (by simp) (fun _ _ _ _ h => h) fun F hF0 hFm => ?_
  unfold timeOk
  repeat (first | refine cg_seq ?_ | refine cg_region ?_ | refine rg_nil ?_ | refine eg_then ?_ | refine qsp ?_)
  cases q1 : decide (0 ≤ n)
  · repeat (first | refine rg_nil ?_ | refine eg_then ?_ | refine qsp ?_ | refine qso ?_ | refine cg_ret ?_)
    exact eg_return rfl rfl rfl
  repeat (first | refine rg_nil ?_ | refine eg_then ?_ | refine qsp ?_ | refine cg_ret ?_)
  exact eg_return rfl rfl rfl
set_option maxHeartbeats 400000 in
theorem ids_ct {k : PH} (x y : Member) (a0 a1 b0 b1 : Option Addr) (c0 c1 d0 d1 : Nat) : CT Tryz.prog 62 #[.agg (x.cs a0 c0 a1 c1).toArray, .agg (y.cs b0 d0 b1 d1).toArray] k (fun _ v => v = .int .i64 (ordId x y)) := by
  refine ct_of_body (l := [_, _]) Tryz.func62 rfl Tryz.ntmps62 (by simp) (fun _ _ _ _ h => h) fun F hF0 hFm => ?_
  repeat (first | refine cg_seq ?_ | refine cg_region ?_)
  refine rb rfl rfl rfl rfl (a_box rfl rfl) ?_; intro b2 k2 hb2 hN2 hle2 hk2
  skip
  refine rb rfl rfl rfl rfl (a_box rfl rfl) ?_; intro b3 k3 hb3 hN3 hle3 hk3
  obtain ⟨p0, p1, p2, p3, p4, p5⟩ := Member.parts ((cells_at (vs := x.cs a0 c0 a1 c1) hk2 rfl).le hle3)
  obtain ⟨q0, q1, q2, q3, q4, q5⟩ := Member.parts (cells_at (vs := y.cs b0 d0 b1 d1) hk3 rfl)
  repeat (first | refine cg_seq ?_ | refine cg_region ?_ | refine rg_nil ?_ | refine eg_then ?_ | refine qsp ?_ | refine qsl ?_ | refine qsf ?_)
  refine rs rfl rfl (loc_call_is rfl rfl rfl rfl (strCompare_ct x.id y.id)) ?_
  repeat (first | refine rg_nil ?_ | refine eg_then ?_ | refine qsp ?_ | refine cg_ret ?_)
  exact eg_return rfl rfl rfl
set_option maxHeartbeats 1000000 in
theorem rightTp_ct {k : PH} {a : Option Addr} {c : Nat} {l : List Tp} (hl : Sl tTp k a c l) {g1 g2 : FuncId} [FnOk Tryz.prog g1] [FnOk Tryz.prog g2] {cap2 : Array Value} (ord : Tp → Tp → Int) (may : Tp → Bool)
    (ho : ∀ k0 x y, CT Tryz.prog g1 #[.agg x.vs.toArray, .agg y.vs.toArray] k0 (fun _ v => v = .int .i64 (ord x y)))
    (hm : ∀ k0, Le k k0 → ∀ x ∈ l, x.ok → CT Tryz.prog g2 (#[] ++ [.agg x.vs.toArray].toArray ++ cap2) k0 (fun _ v => v = .bool (may x))) :
    CT Tryz.prog 27 #[.slice a l.length c, .func (.func g1) #[] #[], .func (.func g2) #[] cap2] k (fun _ v => v = .bool (decide (RightP ord may l))) := by
  refine ct_of_body (l := [_, _, _]) Tryz.func27 rfl Tryz.ntmps27 (by simp) (fun _ _ _ _ h => h) fun F hF0 hFm => ?_
  have b1 := hl.cap; have b2 := hl.max; unfold maxLen at b2
  repeat (first | refine cg_seq ?_ | refine cg_region ?_ | refine rg_nil ?_ | refine eg_then ?_ | refine qsp ?_ | refine qsn ?_ | refine cg_block ?_)
  refine cg_loop (fun (i : Nat) e k' => Le k k' ∧ i ≤ l.length ∧ (∀ j, (h : j < l.length) → j < i → may l[j] = true ∧ (0 < j → ord l[j - 1] l[j] < 0)) ∧ e = [(0, .is (.slice a l.length c)), (1, .is (.func (.func g1) #[] #[])), (2, .is (.func (.func g2) #[] cap2)), (9, .is (.slice a l.length c)), (10, .is (.int .i64 (l.length : Int))), (11, .is (.int .i64 (i : Int)))])
    (fun i => l.length - i) 0 ⟨Le.refl _, Nat.zero_le _, fun j _ hj => by omega, rfl⟩ ⟨rfl, rfl, rfl, rfl, rfl, rfl, trivial⟩ ?_
  rintro i e k1 ⟨hle, hi, hno, rfl⟩
  repeat (first | refine cg_seq ?_ | refine cg_region ?_ | refine rg_nil ?_ | refine eg_then ?_ | refine qsp ?_)
  refine cg_cond rfl (fun h => ?_) (fun h => ?_)
  · have hlt : i < l.length := by simpa using h
    have hno' : ∀ (b : Bool), (b = true ↔ may l[i] = true ∧ (0 < i → ord l[i - 1] l[i] < 0)) → b = false → RightP ord may l → False := fun b hb hf hr => by
      have := hb.2 (hr i hlt)
      rw [hf] at this; cases this
    obtain ⟨bx, ox, cx, ea, ⟨ecx, hok⟩, hcx⟩ := (hl.le hle).el i l[i] (List.getElem?_eq_getElem hlt)
    subst ecx
    have ea' := ea
    subst ea
    repeat (first | refine cg_seq ?_ | refine cg_region ?_ | refine eg_then ?_ | refine qsp ?_ | refine qsi ?_ | refine qsg ?_ | refine cg_skip ?_ | refine cg_block ?_)
    refine rb rfl rfl rfl rfl (a_alloc rfl) ?_; intro b8 k8 hb8 hN8 hle8 hk8
    repeat (first | refine qsp ?_)
    refine rw1 (vs := l[i].vs) rfl rfl rfl rfl rfl rfl rfl hk8 rfl (.inl hN8) ?_ ?_
    · exact Tp.one k l[i].vs l[i] ⟨rfl, hok⟩
    intro k9 ht9 hk9
    have c9 := cells_at (vs := l[i].vs) hk9 rfl
    have hle9 : Le k1 k9 := ht9 k1 hle8 hb8
    have hm' := hm k9 (hle.trans hle9) l[i] (List.getElem_mem hlt) hok
    repeat (first | refine cg_seq ?_ | refine rg_nil ?_ | refine eg_then ?_)
    refine cg_any (by kernel_rfl) rfl ?_
    repeat (first | refine qwp ?_ | refine qwg ?_)
    refine ws rfl (loc_call_is rfl rfl rfl rfl (hm')) ?_
    repeat (first | refine qwp ?_)
    have out : ¬ (may l[i] = true ∧ (0 < i → ord l[i - 1] l[i] < 0)) → decide (RightP ord may l) = false := fun h => decide_eq_false fun hr => h (hr i hlt)
    cases q1 : may l[i]
    · repeat (first | refine qwp ?_ | refine qwo ?_ | (refine wn rfl ?_; refine eg_then ?_))
      repeat (first | refine cg_seq ?_ | refine cg_region ?_ | refine rg_nil ?_ | refine eg_then ?_ | refine qsp ?_ | refine cg_cond_true rfl ?_ | refine cg_ret ?_ | refine eg_then_ret ?_ | refine eg_in_ret ?_)
      refine eg_return rfl rfl ?_
      rw [out (by simp [q1])]
    repeat (first | refine qwp ?_)
    cases q2 : decide ((i : Int) > 0)
    · have hi0 : i = 0 := by simp at q2; omega
      repeat (first | refine qwp ?_ | refine qwo ?_ | (refine wn rfl ?_; refine eg_then ?_))
      repeat (first | refine cg_region ?_ | refine rg_nil ?_ | refine eg_then ?_ | refine qsp ?_ | refine qsa ?_ | refine cg_cond_false rfl ?_ | refine cg_skip ?_ | refine eg_in_normal ?_)
      refine eg_again (i + 1) _ ⟨hle.trans hle9, hlt, fun j hj hji => ?_, rfl⟩ (by omega) ⟨rfl, rfl, rfl, rfl, rfl, rfl, trivial⟩
      have : j = i := by omega
      subst this
      exact ⟨q1, fun h => by omega⟩
    have hi0 : 0 < i := by simp at q2; omega
    obtain ⟨by', oy, cy, ey, ⟨ecy, hoky⟩, hcy⟩ := ((hl.le hle).le hle9).el (i - 1) l[i - 1] (List.getElem?_eq_getElem (by omega))
    subst ecy
    have ho' := ho k9 l[i - 1] l[i]
    simp only [Option.some.injEq, Addr.mk.injEq, and_true] at ey
    obtain ⟨rfl, rfl⟩ := ey
    repeat (first | refine qwp ?_ | refine qws ?_)
    rw [show ((i : Int) - 1) = ((i - 1 : Nat) : Int) by omega]
    repeat (first | refine qwi ?_ | refine qwg ?_)
    refine ws rfl (loc_call_is rfl rfl rfl rfl (ho')) ?_
    repeat (first | refine qwp ?_ | (refine wn rfl ?_; refine eg_then ?_))
    cases q3 : decide (ord l[i - 1] l[i] ≥ 0)
    · have hlt0 : ord l[i - 1] l[i] < 0 := by simp at q3; omega
      skip
      repeat (first | refine cg_region ?_ | refine rg_nil ?_ | refine eg_then ?_ | refine qsp ?_ | refine qsa ?_ | refine cg_cond_false rfl ?_ | refine cg_skip ?_ | refine eg_in_normal ?_)
      refine eg_again (i + 1) _ ⟨hle.trans hle9, hlt, fun j hj hji => ?_, rfl⟩ (by omega) ⟨rfl, rfl, rfl, rfl, rfl, rfl, trivial⟩
      by_cases e : j = i
      · subst e; exact ⟨q1, fun _ => hlt0⟩
      · exact hno j hj (by omega)
    · skip
      repeat (first | refine cg_seq ?_ | refine cg_region ?_ | refine rg_nil ?_ | refine eg_then ?_ | refine qsp ?_ | refine cg_cond_true rfl ?_ | refine cg_ret ?_ | refine eg_then_ret ?_ | refine eg_in_ret ?_)
      refine eg_return rfl rfl ?_
      rw [out (fun h => by have := h.2 hi0; simp at q3; omega)]
  · have hil : i = l.length := by simp at h; omega
    repeat (first | refine cg_seq ?_ | refine cg_region ?_ | refine rg_nil ?_ | refine eg_then ?_ | refine qsp ?_ | refine cg_ret ?_ | refine cg_exit ?_ | refine eg_then_exit ?_ | refine eg_in_exit ?_)
    refine eg_return rfl rfl ?_
    rw [decide_eq_true (show RightP ord may l from fun j hj => hno j hj (by omega))]

end Go.Wm

/-
  Small looks, the program's: numbers, transactions, places held. Conditions: that what is handed in reads as data.
-/
import Derived.Test.YtjonlpdnhbnmmaaGreatCuQ
import Derived.Test.YtjonlpdnhbnmmaaGreatCoB
set_option linter.all false
namespace Go.Wm
open Go.RowKit Go.Proofs
attribute [local irreducible] RG CG EG WA Loc Det Alc CT Exit.then Exit.inBlock Code.wp bodyPost

set_option maxHeartbeats 1000000 in
theorem indexFuncPl_ct {k : PH} {a : Option Addr} {c : Nat} {l : List Pl} (hl : Sl tPl k a c l) {g : FuncId} [FnOk Tryz.prog g] {cap : Array Value} (f : Pl → Bool)
    (hf : ∀ m ∈ l, ∀ cm, tPl.rep k cm m → CT Tryz.prog g (#[] ++ [.agg cm.toArray].toArray ++ cap) k (fun _ v => v = .bool (f m))) :
    CT Tryz.prog 120 #[.slice a l.length c, .func (.func g) #[] cap] k (fun _ v => v = .int .i64 (idxF l f)) := by
  refine ct_of_body (l := [_, _]) Tryz.func120 rfl Tryz.ntmps120 (by simp) (fun _ _ _ _ h => h) fun F hF0 hFm => ?_
  have b1 := hl.cap; have b2 := hl.max; unfold maxLen at b2
  repeat (first | refine cg_seq ?_ | refine cg_region ?_ | refine rg_nil ?_ | refine eg_then ?_ | refine qsp ?_ | refine qsn ?_ | refine cg_block ?_)
  refine cg_loop (fun (i : Nat) e k' => k' = k ∧ i ≤ l.length ∧ (∀ x ∈ l.take i, f x = false) ∧ e = [(0, .is (.slice a l.length c)), (1, .is (.func (.func g) #[] cap)), (7, .is (.int .i64 (l.length : Int))), (8, .is (.int .i64 (i : Int)))])
    (fun i => l.length - i) 0 ⟨rfl, Nat.zero_le _, by simp, rfl⟩ ⟨rfl, rfl, rfl, rfl, trivial⟩ ?_
  rintro i e k1 ⟨rfl, hi, hno, rfl⟩
  repeat (first | refine cg_seq ?_ | refine cg_region ?_ | refine rg_nil ?_ | refine eg_then ?_ | refine qsp ?_)
  refine cg_cond rfl (fun h => ?_) (fun h => ?_)
  · have hlt : i < l.length := by simpa using h
    obtain ⟨bx, ox, cx, rfl, hrep, hcx⟩ := hl.el i l[i] (List.getElem?_eq_getElem hlt)
    have hcl := tPl.len hrep
    have hcall := hf l[i] (List.getElem_mem hlt) cx hrep
    repeat (first | refine cg_seq ?_ | refine cg_region ?_ | refine rg_nil ?_ | refine eg_then ?_ | refine qsp ?_ | refine qsi ?_ | refine cg_skip ?_ | refine cg_block ?_)
    refine rs rfl rfl (loc_det rfl (d_load_agg (vs := cx) rfl rfl rfl hcl hcx)) ?_
    refine rs rfl rfl (loc_call_is rfl rfl rfl rfl (hcall)) ?_
    repeat (first | refine rg_nil ?_ | refine eg_then ?_)
    by_cases hw : f l[i] = true
    · refine cg_cond_true (by simp [opv, get, Nat.beq, hw]) ?_
      repeat (first | refine cg_seq ?_ | refine cg_region ?_ | refine rg_nil ?_ | refine eg_then ?_ | refine qsp ?_ | refine cg_ret ?_ | refine eg_then_ret ?_ | refine eg_in_ret ?_)
      refine eg_return rfl rfl ?_
      rw [idxF_at hlt hw hno]
    · refine cg_cond_false (by simp [opv, get, Nat.beq, hw]) ?_
      repeat (first | refine cg_region ?_ | refine rg_nil ?_ | refine eg_then ?_ | refine qsp ?_ | refine qsa ?_ | refine cg_skip ?_ | refine eg_in_normal ?_)
      refine eg_again (i + 1) _ ⟨rfl, hlt, fun x hx => ?_, rfl⟩ (by omega) ⟨rfl, rfl, rfl, rfl, trivial⟩
      rw [List.take_succ_eq_append_getElem hlt] at hx
      rcases List.mem_append.1 hx with hx | hx
      · exact hno x hx
      · simp at hx; rw [hx]; simpa using hw
  · repeat (first | refine cg_seq ?_ | refine cg_region ?_ | refine rg_nil ?_ | refine eg_then ?_ | refine qsp ?_ | refine cg_ret ?_ | refine cg_exit ?_ | refine eg_then_exit ?_ | refine eg_in_exit ?_)
    refine eg_return rfl rfl ?_
    have : i = l.length := by simp at h; omega
    rw [this, List.take_length] at hno
    rw [idxF_no hno]

set_option maxHeartbeats 400000 in
theorem containsFuncPl_ct {k : PH} {a : Option Addr} {c : Nat} {l : List Pl} (hl : Sl tPl k a c l) {g : FuncId} [FnOk Tryz.prog g] {cap : Array Value} (f : Pl → Bool)
    (hf : ∀ m ∈ l, ∀ cm, tPl.rep k cm m → CT Tryz.prog g (#[] ++ [.agg cm.toArray].toArray ++ cap) k (fun _ v => v = .bool (f m))) :
    CT Tryz.prog 105 #[.slice a l.length c, .func (.func g) #[] cap] k (fun _ v => v = .bool (l.any f)) := by
  refine ct_of_body (l := [_, _]) Tryz.func105 rfl Tryz.ntmps105 (by simp) (fun _ _ _ _ h => h) fun F hF0 hFm => ?_
  have hcall := indexFuncPl_ct hl f hf
  repeat (first | refine cg_seq ?_ | refine cg_region ?_ | refine rg_nil ?_ | refine eg_then ?_ | refine qsp ?_)
  refine rs rfl rfl (loc_call_is rfl rfl rfl rfl (hcall)) ?_
  repeat (first | refine rg_nil ?_ | refine eg_then ?_ | refine qsp ?_ | refine cg_ret ?_)
  refine eg_return rfl rfl ?_
  rw [idxF_ge]

set_option maxHeartbeats 1000000 in
theorem indexFuncGone_ct {k : PH} {a : Option Addr} {c : Nat} {l : List Gone} (hl : Sl tGone k a c l) {g : FuncId} [FnOk Tryz.prog g] {cap : Array Value} (f : Gone → Bool)
    (hf : ∀ m ∈ l, ∀ cm, tGone.rep k cm m → CT Tryz.prog g (#[] ++ [.agg cm.toArray].toArray ++ cap) k (fun _ v => v = .bool (f m))) :
    CT Tryz.prog 77 #[.slice a l.length c, .func (.func g) #[] cap] k (fun _ v => v = .int .i64 (idxF l f)) := by
  refine ct_of_body (l := [_, _]) Tryz.func77 rfl Tryz.ntmps77 (by simp) (fun _ _ _ _ h => h) fun F hF0 hFm => ?_
  have b1 := hl.cap; have b2 := hl.max; unfold maxLen at b2
  repeat (first | refine cg_seq ?_ | refine cg_region ?_ | refine rg_nil ?_ | refine eg_then ?_ | refine qsp ?_ | refine qsn ?_ | refine cg_block ?_)
  refine cg_loop (fun (i : Nat) e k' => k' = k ∧ i ≤ l.length ∧ (∀ x ∈ l.take i, f x = false) ∧ e = [(0, .is (.slice a l.length c)), (1, .is (.func (.func g) #[] cap)), (7, .is (.int .i64 (l.length : Int))), (8, .is (.int .i64 (i : Int)))])
    (fun i => l.length - i) 0 ⟨rfl, Nat.zero_le _, by simp, rfl⟩ ⟨rfl, rfl, rfl, rfl, trivial⟩ ?_
  rintro i e k1 ⟨rfl, hi, hno, rfl⟩
  repeat (first | refine cg_seq ?_ | refine cg_region ?_ | refine rg_nil ?_ | refine eg_then ?_ | refine qsp ?_)
  refine cg_cond rfl (fun h => ?_) (fun h => ?_)
  · have hlt : i < l.length := by simpa using h
    obtain ⟨bx, ox, cx, rfl, hrep, hcx⟩ := hl.el i l[i] (List.getElem?_eq_getElem hlt)
    have hcl := tGone.len hrep
    have hcall := hf l[i] (List.getElem_mem hlt) cx hrep
    repeat (first | refine cg_seq ?_ | refine cg_region ?_ | refine rg_nil ?_ | refine eg_then ?_ | refine qsp ?_ | refine qsi ?_ | refine cg_skip ?_ | refine cg_block ?_)
    refine rs rfl rfl (loc_det rfl (d_load_agg (vs := cx) rfl rfl rfl hcl hcx)) ?_
    refine rs rfl rfl (loc_call_is rfl rfl rfl rfl (hcall)) ?_
    repeat (first | refine rg_nil ?_ | refine eg_then ?_)
    by_cases hw : f l[i] = true
    · refine cg_cond_true (by simp [opv, get, Nat.beq, hw]) ?_
      repeat (first | refine cg_seq ?_ | refine cg_region ?_ | refine rg_nil ?_ | refine eg_then ?_ | refine qsp ?_ | refine cg_ret ?_ | refine eg_then_ret ?_ | refine eg_in_ret ?_)
      refine eg_return rfl rfl ?_
      rw [idxF_at hlt hw hno]
    · refine cg_cond_false (by simp [opv, get, Nat.beq, hw]) ?_
      repeat (first | refine cg_region ?_ | refine rg_nil ?_ | refine eg_then ?_ | refine qsp ?_ | refine qsa ?_ | refine cg_skip ?_ | refine eg_in_normal ?_)
      refine eg_again (i + 1) _ ⟨rfl, hlt, fun x hx => ?_, rfl⟩ (by omega) ⟨rfl, rfl, rfl, rfl, trivial⟩
      rw [List.take_succ_eq_append_getElem hlt] at hx
      rcases List.mem_append.1 hx with hx | hx
      · exact hno x hx
      · simp at hx; rw [hx]; simpa using hw
  · repeat (first | refine cg_seq ?_ | refine cg_region ?_ | refine rg_nil ?_ | refine eg_then ?_ | refine qsp ?_ | refine cg_ret ?_ | refine cg_exit ?_ | refine eg_then_exit ?_ | refine eg_in_exit ?_)
    refine eg_return rfl rfl ?_
    have : i = l.length := by simp at h; omega
    rw [this, List.take_length] at hno
    rw [idxF_no hno]

set_option maxHeartbeats 400000 in
theorem containsFuncGone_ct {k : PH} {a : Option Addr} {c : Nat} {l : List Gone} (hl : Sl tGone k a c l) {g : FuncId} [FnOk Tryz.prog g] {cap : Array Value} (f : Gone → Bool)
    (hf : ∀ m ∈ l, ∀ cm, tGone.rep k cm m → CT Tryz.prog g (#[] ++ [.agg cm.toArray].toArray ++ cap) k (fun _ v => v = .bool (f m))) :
    CT Tryz.prog 44 #[.slice a l.length c, .func (.func g) #[] cap] k (fun _ v => v = .bool (l.any f)) := by
  refine ct_of_body (l := [_, _]) Tryz.func44 rfl Tryz.ntmps44 (by simp) (fun _ _ _ _ h => h) fun F hF0 hFm => ?_
  have hcall := indexFuncGone_ct hl f hf
  repeat (first | refine cg_seq ?_ | refine cg_region ?_ | refine rg_nil ?_ | refine eg_then ?_ | refine qsp ?_)
  refine rs rfl rfl (loc_call_is rfl rfl rfl rfl (hcall)) ?_
  repeat (first | refine rg_nil ?_ | refine eg_then ?_ | refine qsp ?_ | refine cg_ret ?_)
  refine eg_return rfl rfl ?_
  rw [idxF_ge]


set_option maxHeartbeats 400000 in
theorem beyond_ct {k : PH} (n : Int) : CT Tryz.prog 69 #[.int .i64 n] k (fun _ v => v = .bool (!inO n)) := by
  refine ct_of_body (l := [_]) Tryz.func69 rfl Tryz.ntmps69 (by simp) (fun _ _ _ _ h => h) fun F hF0 hFm => ?_
  repeat (first | refine cg_seq ?_ | refine cg_region ?_ | refine rg_nil ?_ | refine eg_then ?_ | refine qsp ?_)
  cases q : decide (n < 0)
  · repeat (first | refine rg_nil ?_ | refine eg_then ?_ | refine qsp ?_ | refine cg_ret ?_)
    refine eg_return rfl rfl ?_
    have : 0 ≤ n := by simp at q; omega
    simp only [inO, this, decide_true, Bool.true_and]
    rw [Value.bool.injEq, Bool.eq_iff_iff]
    simp
  · repeat (first | refine rg_nil ?_ | refine eg_then ?_ | refine qsp ?_ | refine qso ?_ | refine cg_ret ?_)
    refine eg_return rfl rfl ?_
    have : ¬ 0 ≤ n := by simp at q; omega
    simp [inO, this]
set_option maxHeartbeats 400000 in
theorem txOrder_ct {k : PH} (o : OpenT) (n : Int) : CT Tryz.prog 64 #[.agg o.vs.toArray, .int .i64 n] k (fun _ v => v = .int .i64 (cmpInt o.pid n)) := by
  refine ct_of_body (l := [_, _]) Tryz.func64 rfl Tryz.ntmps64 (by simp) (fun _ _ _ _ h => h) fun F hF0 hFm => ?_
  repeat (first | refine cg_seq ?_ | refine cg_region ?_)
  refine rb rfl rfl rfl rfl (a_box rfl rfl) ?_; intro b2 k2 hb2 hN2 hle2 hk2
  have c2 := cells_at (vs := o.vs) hk2 rfl
  obtain ⟨p0, p1⟩ := OpenT.parts c2
  repeat (first | refine cg_seq ?_ | refine cg_region ?_ | refine rg_nil ?_ | refine eg_then ?_ | refine qsp ?_ | refine qsl ?_ | refine qsf ?_)
  refine rs rfl rfl (loc_call_is rfl rfl rfl rfl (cmpInt_ct o.pid n)) ?_
  repeat (first | refine rg_nil ?_ | refine eg_then ?_ | refine qsp ?_ | refine cg_ret ?_)
  exact eg_return rfl rfl rfl
set_option maxHeartbeats 1000000 in
theorem odd_ct {k : PH} (g : Gone) : CT Tryz.prog 70 #[.agg g.vs.toArray] k (fun _ v => v = .bool (!okGone g)) := by
  refine ct_of_body (l := [_]) Tryz.func70 rfl Tryz.ntmps70 (by simp) (fun _ _ _ _ h => h) fun F hF0 hFm => ?_
  repeat (first | refine cg_seq ?_ | refine cg_region ?_)
  refine rb rfl rfl rfl rfl (a_box rfl rfl) ?_; intro b2 k2 hb2 hN2 hle2 hk2
  have c2 := cells_at (vs := g.vs) hk2 rfl
  obtain ⟨p0, p1, p2, p3⟩ := Gone.parts c2
  have hd : okGone g = (inO g.pid && (decide (0 ≤ g.no) && (decide (g.no ≤ 1048576) && (decide (0 ≤ g.first) && (decide (g.first < g.last) && inO g.last))))) := rfl
  repeat (first | refine cg_seq ?_ | refine cg_region ?_ | refine rg_nil ?_ | refine eg_then ?_ | refine qsp ?_ | refine qsl ?_ | refine qsf ?_)
  refine rs rfl rfl (loc_call_is rfl rfl rfl rfl (beyond_ct g.pid)) ?_
  repeat (first | refine qsp ?_)
  cases q1 : inO g.pid
  · repeat (first | refine rg_nil ?_ | refine eg_then ?_ | refine qsp ?_ | refine qso ?_ | refine cg_ret ?_)
    exact eg_return rfl rfl (by simp [hd, q1])
  repeat (first | refine qsp ?_ | refine qsl ?_ | refine qsf ?_)
  cases q2 : decide (g.no < 0)
  rotate_left
  · repeat (first | refine rg_nil ?_ | refine eg_then ?_ | refine qsp ?_ | refine qso ?_ | refine cg_ret ?_)
    refine eg_return rfl rfl ?_
    have : ¬ 0 ≤ g.no := by simp at q2; omega
    simp [hd, this]
  repeat (first | refine qsp ?_ | refine qsl ?_ | refine qsf ?_)
  cases q3 : decide (g.no > 1048576)
  rotate_left
  · repeat (first | refine rg_nil ?_ | refine eg_then ?_ | refine qsp ?_ | refine qso ?_ | refine cg_ret ?_)
    refine eg_return rfl rfl ?_
    have : ¬ g.no ≤ 1048576 := by simp at q3; omega
    simp [hd, this]
  repeat (first | refine qsp ?_ | refine qsl ?_ | refine qsf ?_)
  cases q4 : decide (g.first < 0)
  rotate_left
  · repeat (first | refine rg_nil ?_ | refine eg_then ?_ | refine qsp ?_ | refine qso ?_ | refine cg_ret ?_)
    refine eg_return rfl rfl ?_
    have : ¬ 0 ≤ g.first := by simp at q4; omega
    simp [hd, this]
  repeat (first | refine qsp ?_ | refine qsl ?_ | refine qsf ?_)
  cases q5 : decide (g.first ≥ g.last)
  rotate_left
  · repeat (first | refine rg_nil ?_ | refine eg_then ?_ | refine qsp ?_ | refine qso ?_ | refine cg_ret ?_)
    refine eg_return rfl rfl ?_
    have : ¬ g.first < g.last := by simp at q5; omega
    simp [hd, this]
  repeat (first | refine qsl ?_ | refine qsf ?_)
  refine rs rfl rfl (loc_call_is rfl rfl rfl rfl (beyond_ct g.last)) ?_
  repeat (first | refine rg_nil ?_ | refine eg_then ?_ | refine qsp ?_ | refine cg_ret ?_)
  refine eg_return rfl rfl ?_
  simp at q2 q3 q4 q5
  simp [hd, q1, q2, q3, q4, q5]

set_option maxHeartbeats 400000 in
theorem held1_ct {k : PH} (p : Pl) {b : Option Addr} {d : Nat} {m : List Int} {q : Nat} (hm : Sl tInt k b d m) (hq : Cells k q 0 [.slice b m.length d]) (hr : ∃ i, i < m.length ∧ p.view = (i : Int)) :
    CT Tryz.prog 106 #[.agg p.vs.toArray, .pointer (some ⟨q, 0, none⟩)] k (fun _ v => v = .bool (decide (markAt m p ≤ p.last))) := by
  refine ct_of_body (l := [_, _]) Tryz.func106 rfl Tryz.ntmps106 (by simp) (fun _ _ _ _ h => h) fun F hF0 hFm => ?_
  obtain ⟨i, hi, hv⟩ := hr
  repeat (first | refine cg_seq ?_ | refine cg_region ?_)
  refine rb rfl rfl rfl rfl (a_box rfl rfl) ?_; intro b2 k2 hb2 hN2 hle2 hk2
  have c2 := cells_at (vs := p.vs) hk2 rfl
  obtain ⟨p0, p1, p2⟩ := Pl.parts c2
  rw [hv] at p0
  have hq := hq.le hle2
  obtain ⟨bx, ox, cx, rfl, ⟨rfl, hok⟩, hcx⟩ := (hm.le hle2).el i m[i] (List.getElem?_eq_getElem hi)
  have hma : markAt m p = m[i] := by
    unfold markAt
    rw [hv]
    simp [hi]
  repeat (first | refine cg_seq ?_ | refine rg_nil ?_ | refine eg_then ?_ | refine qsp ?_)
  refine cg_any (by kernel_rfl) rfl ?_
  repeat (first | refine qwp ?_ | refine qwi ?_ | refine qwl ?_ | refine qwf ?_ | (refine wn rfl ?_; refine eg_then ?_))
  repeat (first | refine cg_ret ?_)
  refine eg_return rfl rfl ?_
  rw [hma]
set_option maxHeartbeats 400000 in
theorem held_ct {k : PH} {a b : Option Addr} {c d : Nat} {ps : List Pl} {m : List Int} (hl : Sl tPl k a c ps) (hm : Sl tInt k b d m) (hr : ∀ p ∈ ps, ∃ i, i < m.length ∧ p.view = (i : Int)) :
    CT Tryz.prog 88 #[.slice a ps.length c, .slice b m.length d] k (fun _ v => v = .bool (heldP m ps)) := by
  refine ct_of_body (l := [_, _]) Tryz.func88 rfl Tryz.ntmps88 (by simp) (fun _ _ _ _ h => h) fun F hF0 hFm => ?_
  repeat (first | refine cg_seq ?_ | refine cg_region ?_)
  refine rb rfl rfl rfl rfl (a_box rfl rfl) ?_; intro b3 k3 hb3 hN3 hle3 hk3
  have c3 := cells_at (vs := [.slice b m.length d]) hk3 rfl
  have hcall := containsFuncPl_ct (hl.le hle3) (g := 106) (cap := #[.pointer (some ⟨b3, 0, none⟩)]) (fun p => decide (markAt m p ≤ p.last)) (fun p hp cm hcm => by
    obtain ⟨rfl, _⟩ := hcm
    exact held1_ct p (hm.le hle3) c3 (hr p hp))
  repeat (first | refine cg_seq ?_ | refine cg_region ?_ | refine rg_nil ?_ | refine eg_then ?_ | refine qsp ?_)
  refine rs rfl rfl (loc_call_is rfl rfl rfl rfl (hcall)) ?_
  repeat (first | refine rg_nil ?_ | refine eg_then ?_ | refine qsp ?_ | refine cg_ret ?_)
  exact eg_return rfl rfl rfl
end Go.Wm
-- cut by zcut

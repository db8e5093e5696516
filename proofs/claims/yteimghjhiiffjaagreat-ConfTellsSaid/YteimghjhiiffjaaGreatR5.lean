/-
  A topic, a rate, a way, the document's; a rate, the program's. Conditions: that what is handed in reads as data.
-/
import Derived.Test.YteimghjhiiffjaaGreatR3
import Derived.Test.YteimghjhiiffjaaGreatD9
import Derived.Test.YteimghjhiiffjaaGreatArr3
set_option linter.all false
namespace Go.Wm
open Go.RowKit Go.Proofs
attribute [local irreducible] RG CG EG WA Loc Det Alc CT Exit.then Exit.inBlock Code.wp bodyPost
theorem right_find {α : Type} {ord : α → α → Int} (ho : OrdL ord) {may : α → Bool} {l : List α} (hr : RightP ord may l) (x : α) (hm : metF (fun y => ord y x) l = true) : ∃ (p : Nat) (h : p < l.length), posF (fun y => ord y x) l = p ∧ l.find? (fun y => decide (ord y x = 0)) = some l[p] := by
  obtain ⟨h, hz⟩ := metF_lt hm
  refine ⟨_, h, rfl, ?_⟩
  rw [List.find?_eq_some_iff_append]
  refine ⟨by simpa using hz, _, _, split_at h, fun y hy => ?_⟩
  have := take_below (f := fun y => ord y x) y hy
  simp only [Bool.not_eq_true', decide_eq_false_iff_not]
  omega
def noRate : Rate := ⟨⟨#[]⟩, 0, 0⟩
def rateF (l : List Rate) (s : ByteArray) : Option Rate := l.find? fun r => decide (r.who = s)
def rateQ (x : Conf) (who : ByteArray) : Rate × Bool := if confP x = true then (match rateF x.rates who with | some r => (r, true) | none => (match rateF x.rates starS with | some r => (r, true) | none => (noRate, false))) else (noRate, false)
theorem rate_met {x : Conf} (hr : RightP ordRate rateP x.rates) (s : ByteArray) : metF (fun r => cmpStr r.who s) x.rates = (rateF x.rates s).isSome := by
  have := right_met ordL_rate hr ⟨s, 0, 0⟩
  refine this.trans ?_
  unfold rateF
  rw [Bool.eq_iff_iff, List.find?_isSome, List.any_eq_true]
  constructor <;> rintro ⟨r, h1, h2⟩ <;> refine ⟨r, h1, ?_⟩
  · exact decide_eq_true (cmpStr_eq.1 (of_decide_eq_true h2))
  · have : r.who = s := by simpa using h2
    exact decide_eq_true (cmpStr_eq.2 this)
theorem rate_find {x : Conf} (hr : RightP ordRate rateP x.rates) (s : ByteArray) (hm : metF (fun r => cmpStr r.who s) x.rates = true) : ∃ (p : Nat) (h : p < x.rates.length), posF (fun r => cmpStr r.who s) x.rates = p ∧ rateF x.rates s = some x.rates[p] := by
  obtain ⟨p, h, hp, hf⟩ := right_find ordL_rate hr ⟨s, 0, 0⟩ hm
  refine ⟨p, h, hp, ?_⟩
  rw [← hf]
  unfold rateF
  congr 1
  funext r
  exact decide_eq_decide.2 cmpStr_eq.symm
def nmR (who : ByteArray) (i : Nat) : ByteArray := if i = 0 then who else starS
theorem rateQ_at {x : Conf} {who : ByteArray} (hc : confP x = true) {i : Nat} (hi : i < 2) (hno : ∀ j, j < i → rateF x.rates (nmR who j) = none) {r : Rate} (hf : rateF x.rates (nmR who i) = some r) : rateQ x who = (r, true) := by
  rw [rateQ, if_pos hc]
  obtain rfl | rfl : i = 0 ∨ i = 1 := by omega
  · have hf : rateF x.rates who = some r := hf
    rw [hf]
  · have h0 : rateF x.rates who = none := hno 0 (by decide)
    have hf : rateF x.rates starS = some r := hf
    rw [h0, hf]
theorem rateQ_no {x : Conf} {who : ByteArray} (hc : confP x = true) (hno : ∀ j, j < 2 → rateF x.rates (nmR who j) = none) : rateQ x who = (noRate, false) := by
  rw [rateQ, if_pos hc]
  have h0 : rateF x.rates who = none := hno 0 (by decide)
  have h1 : rateF x.rates starS = none := hno 1 (by decide)
  rw [h0, h1]
def RateV (q : Rate × Bool) (v : Value) : Prop := v = .tuple #[.agg q.1.vs.toArray, .bool q.2]
set_option maxHeartbeats 2000000 in
theorem rate_ct {k : PH} {x : Conf} {a0 : Option Addr} {c0 : Nat} {a1 : Option Addr} {c1 : Nat} {a2 : Option Addr} {c2 : Nat} {a3 : Option Addr} {c3 : Nat} (H : CfAt k x a0 c0 a1 c1 a2 c2 a3 c3) (hb : x.rates.length ≤ 1000000) (who : ByteArray) :
    CT Tryz.prog 22 #[.agg (x.cs a0 c0 a1 c1 a2 c2 a3 c3).toArray, .string who] k (fun _ v => RateV (rateQ x who) v) := by
  refine ct_of_body (l := [_, _]) Tryz.func22 rfl Tryz.ntmps22 (by simp) (fun _ _ _ _ h => h) fun F hF0 hFm => ?_
  repeat (first | refine cg_seq ?_ | refine cg_region ?_)
  refine rb rfl rfl rfl rfl (a_box rfl rfl) ?_; intro s2 k2 hb2 hN2 hle2 hk2
  refine rb rfl rfl rfl rfl (a_alloc rfl) ?_; intro s4 k4 hb4 hN4 hle4 hk4
  have H := H.le (hle2.trans hle4)
  have cc := (cells_at (vs := x.cs a0 c0 a1 c1 a2 c2 a3 c3) hk2 rfl).le hle4
  repeat (first | refine cg_seq ?_ | refine cg_region ?_ | refine rg_nil ?_ | refine eg_then ?_ | refine qsp ?_ | refine qsg ?_)
  refine rs rfl rfl (loc_call_is rfl rfl rfl rfl (check_ct H)) ?_
  cases q1 : confP x
  · simp only [Bool.false_eq_true, if_false]
    repeat (first | refine cg_seq ?_ | refine cg_region ?_ | refine rg_nil ?_ | refine eg_then ?_ | refine qsp ?_ | refine cg_cond_true rfl ?_)
    refine rs rfl rfl (loc_det rfl (d_lit (cells := noRate.vs) rfl rfl rfl)) ?_
    skip
    refine rw1 (vs := noRate.vs) rfl rfl rfl rfl rfl rfl rfl hk4 rfl (.inl hN4) ?_ ?_
    · simp [Rate.vs, Value.oneCell']
    intro k9 ht9 hk9
    have c9 := cells_at (vs := noRate.vs) hk9 rfl
    repeat (first | refine rg_nil ?_ | refine eg_then ?_ | refine qsp ?_ | refine cg_ret ?_ | refine eg_then_ret ?_)
    exact eg_returnC2 rfl rfl rfl rfl c9 rfl (by simp [RateV, rateQ, q1])
  simp only [if_true]
  have hr := (conf_parts q1).2.2.2.2.1
  repeat (first | refine cg_seq ?_ | refine cg_region ?_ | refine rg_nil ?_ | refine eg_then ?_ | refine qsp ?_ | refine cg_cond_false rfl ?_ | refine cg_skip ?_)
  refine rs rfl rfl (loc_det rfl (d_arr2V (a := .string who) (b := .string ⟨#[42]⟩) rfl rfl rfl rfl rfl)) ?_
  repeat (first | refine rg_nil ?_ | refine eg_then ?_ | refine qsp ?_ | refine cg_block ?_)
  refine cg_loop (fun (i : Nat) e k' => i ≤ 2 ∧ k4 = k' ∧ (∀ j, j < i → rateF x.rates (nmR who j) = none) ∧ e = [(2, .is (.pointer (some ⟨s2, 0, none⟩))), (4, .is (.pointer (some ⟨s4, 0, none⟩))), (15, .is (.agg #[.string who, .string ⟨#[42]⟩])), (16, .is (.int .i64 (i : Int)))])
    (fun i => 2 - i) 0 ⟨by decide, rfl, fun j hj => by omega, rfl⟩ ⟨rfl, rfl, rfl, rfl, trivial⟩ ?_
  rintro i e k1 ⟨hi, rfl, hno, rfl⟩
  repeat (first | refine cg_seq ?_ | refine cg_region ?_ | refine rg_nil ?_ | refine eg_then ?_ | refine qsp ?_)
  refine cg_cond rfl (fun h => ?_) (fun h => ?_)
  · have hlt : i < 2 := by simp at h; omega
    have hix : (#[Value.string who, .string ⟨#[42]⟩] : Array Value)[i]? = some (.string (nmR who i)) := by
      obtain rfl | rfl : i = 0 ∨ i = 1 := by omega
      · rfl
      · rfl
    obtain ⟨p0, p1, p2, p3, p4⟩ := Conf.parts cc
    have hcall := binSearchSRate_ct (g := 54) (cap := #[]) H.q hb ⟨nmR who i, 0, 0⟩ (fun y => ordRate y ⟨nmR who i, 0, 0⟩) (fun k1 _ m _ cm hcm => by rw [hcm.1]; exact ratesOrd_ct m _) (right_split ordL_rate hr _)
    rw [show metF (fun y => ordRate y ⟨nmR who i, 0, 0⟩) x.rates = (rateF x.rates (nmR who i)).isSome from rate_met hr _, show posF (fun y => ordRate y ⟨nmR who i, 0, 0⟩) x.rates = posF (fun r => cmpStr r.who (nmR who i)) x.rates from rfl] at hcall
    have hfind := rate_find hr (nmR who i)
    rw [rate_met hr] at hfind
    repeat (first | refine cg_seq ?_ | refine cg_region ?_ | refine eg_then ?_ | refine cg_skip ?_ | refine cg_block ?_)
    refine rs rfl rfl (loc_det rfl (d_ixV rfl rfl rfl hlt rfl hix)) ?_
    repeat (first | refine cg_seq ?_ | refine cg_region ?_ | refine rg_nil ?_ | refine eg_then ?_ | refine qsp ?_ | refine qsl ?_ | refine qsf ?_)
    refine rs rfl rfl (loc_det rfl (d_lit (cells := (⟨nmR who i, 0, 0⟩ : Rate).vs) rfl rfl rfl)) ?_
    refine rs rfl rfl (loc_call_is rfl rfl rfl rfl (hcall)) ?_
    repeat (first | refine cg_seq ?_ | refine cg_region ?_ | refine rg_nil ?_ | refine eg_then ?_ | refine qsp ?_)
    cases q2 : (rateF x.rates (nmR who i)).isSome
    · repeat (first | refine cg_region ?_ | refine rg_nil ?_ | refine eg_then ?_ | refine qsp ?_ | refine qsa ?_ | refine cg_cond_false rfl ?_ | refine cg_skip ?_ | refine eg_in_normal ?_)
      refine eg_again (i + 1) _ ⟨hlt, rfl, fun j hj => ?_, rfl⟩ (by omega) ⟨rfl, rfl, rfl, rfl, trivial⟩
      by_cases e : j = i
      · subst e; simpa using q2
      · exact hno j (by omega)
    · obtain ⟨p, hp, hpp, hf⟩ := hfind q2
      rw [hpp]
      obtain ⟨r, hrr⟩ : ∃ r, x.rates[p] = r := ⟨_, rfl⟩
      rw [hrr] at hf
      obtain ⟨bx, ox, cx, ea, ⟨ecx, _⟩, hcx⟩ := H.q.el p r (by rw [List.getElem?_eq_getElem hp, hrr])
      subst ecx
      subst ea
      repeat (first | refine cg_seq ?_ | refine cg_region ?_ | refine qsp ?_ | refine qsi ?_ | refine qsl ?_ | refine qsg ?_ | refine qsf ?_ | refine cg_cond_true rfl ?_)
      refine rw1 (vs := r.vs) rfl rfl rfl rfl rfl rfl rfl hk4 rfl (.inl hN4) ?_ ?_
      · simp [Rate.vs, Value.oneCell']
      intro k9 ht9 hk9
      have c9 := cells_at (vs := r.vs) hk9 rfl
      repeat (first | refine rg_nil ?_ | refine eg_then ?_ | refine qsp ?_ | refine cg_ret ?_ | refine eg_then_ret ?_ | refine eg_in_ret ?_)
      exact eg_returnC2 rfl rfl rfl rfl c9 rfl (by rw [RateV, rateQ_at q1 hlt hno hf])
  · have hi2 : i = 2 := by simp at h; omega
    subst hi2
    repeat (first | refine cg_seq ?_ | refine cg_region ?_ | refine eg_then ?_ | refine cg_exit ?_ | refine eg_then_exit ?_ | refine eg_in_exit ?_)
    refine rs rfl rfl (loc_det rfl (d_lit (cells := noRate.vs) rfl rfl rfl)) ?_
    skip
    refine rw1 (vs := noRate.vs) rfl rfl rfl rfl rfl rfl rfl hk4 rfl (.inl hN4) ?_ ?_
    · simp [Rate.vs, Value.oneCell']
    intro k9 ht9 hk9
    have c9 := cells_at (vs := noRate.vs) hk9 rfl
    repeat (first | refine rg_nil ?_ | refine eg_then ?_ | refine qsp ?_ | refine cg_ret ?_)
    exact eg_returnC2 rfl rfl rfl rfl c9 rfl (by rw [RateV, rateQ_no q1 hno])
set_option maxHeartbeats 2000000 in
theorem refRate_ct {k : PH} {x : Conf} {a0 : Option Addr} {c0 : Nat} {a1 : Option Addr} {c1 : Nat} {a2 : Option Addr} {c2 : Nat} {a3 : Option Addr} {c3 : Nat} (H : CfAt k x a0 c0 a1 c1 a2 c2 a3 c3) (who : ByteArray) (hw : who.size ≤ maxLen) :
    CT Tryz.prog 23 #[.agg (x.cs a0 c0 a1 c1 a2 c2 a3 c3).toArray, .string who] k (fun _ v => RateV (rateQ x who) v) := by
  refine ct_of_body (l := [_, _]) Tryz.func23 rfl Tryz.ntmps23 (by simp) (fun _ _ _ _ h => h) fun F hF0 hFm => ?_
  have m1 := H.q.cap; have m2 := H.q.max; unfold maxLen at m2
  repeat (first | refine cg_seq ?_ | refine cg_region ?_)
  refine rb rfl rfl rfl rfl (a_box rfl rfl) ?_; intro s2 k2 hb2 hN2 hle2 hk2
  refine rb rfl rfl rfl rfl (a_alloc rfl) ?_; intro s4 k4 hb4 hN4 hle4 hk4
  have H := H.le (hle2.trans hle4)
  have cc := (cells_at (vs := x.cs a0 c0 a1 c1 a2 c2 a3 c3) hk2 rfl).le hle4
  repeat (first | refine cg_seq ?_ | refine cg_region ?_ | refine rg_nil ?_ | refine eg_then ?_ | refine qsp ?_ | refine qsg ?_)
  refine rs rfl rfl (loc_call_is rfl rfl rfl rfl (refCheck_ct H)) ?_
  cases q1 : confP x
  · simp only [Bool.false_eq_true, if_false]
    repeat (first | refine cg_seq ?_ | refine cg_region ?_ | refine rg_nil ?_ | refine eg_then ?_ | refine qsp ?_ | refine cg_cond_true rfl ?_)
    refine rs rfl rfl (loc_det rfl (d_lit (cells := noRate.vs) rfl rfl rfl)) ?_
    skip
    refine rw1 (vs := noRate.vs) rfl rfl rfl rfl rfl rfl rfl hk4 rfl (.inl hN4) ?_ ?_
    · simp [Rate.vs, Value.oneCell']
    intro k9 ht9 hk9
    have c9 := cells_at (vs := noRate.vs) hk9 rfl
    repeat (first | refine rg_nil ?_ | refine eg_then ?_ | refine qsp ?_ | refine cg_ret ?_ | refine eg_then_ret ?_)
    exact eg_returnC2 rfl rfl rfl rfl c9 rfl (by simp [RateV, rateQ, q1])
  simp only [if_true]
  repeat (first | refine cg_seq ?_ | refine cg_region ?_ | refine rg_nil ?_ | refine eg_then ?_ | refine qsp ?_ | refine cg_cond_false rfl ?_ | refine cg_skip ?_)
  refine rb rfl rfl rfl rfl (a_slice (cells := [.string who, .string ⟨#[42]⟩]) rfl rfl rfl rfl (by kernel_rfl) rfl) ?_; intro b5 k5 hb5 hN5 hle5 hk5
  have hsl : Sl tStr k5 (some ⟨b5, 0, none⟩) 2 [who, starS] := sl_flat (f := fun s : ByteArray => [Value.string s]) (xs := [who, starS]) hk5 rfl (fun y hy => ⟨rfl, by
    simp only [List.mem_cons, List.not_mem_nil, or_false] at hy
    rcases hy with rfl | rfl
    · exact hw
    · decide⟩) (by simp [maxLen])
  have H := H.le hle5
  have cc := cc.le hle5
  have hk4 := hle5 _ _ hk4
  repeat (first | refine rg_nil ?_ | refine eg_then ?_ | refine qsp ?_ | refine qsn ?_ | refine cg_block ?_)
  refine cg_loop (fun (i : Nat) e k' => i ≤ 2 ∧ Le k5 k' ∧ (∀ j, j < i → rateF x.rates (nmR who j) = none) ∧ e = [(2, .is (.pointer (some ⟨s2, 0, none⟩))), (4, .is (.pointer (some ⟨s4, 0, none⟩))), (15, .is (.slice (some ⟨b5, 0, none⟩) 2 2)), (16, .is (.int .i64 2)), (17, .is (.int .i64 (i : Int)))])
    (fun i => 2 - i) 0 ⟨by decide, Le.refl _, fun j hj => by omega, rfl⟩ ⟨rfl, rfl, rfl, rfl, rfl, trivial⟩ ?_
  rintro i e k6 ⟨hi, hle6, hno, rfl⟩
  repeat (first | refine cg_seq ?_ | refine cg_region ?_ | refine rg_nil ?_ | refine eg_then ?_ | refine qsp ?_)
  refine cg_cond rfl (fun h => ?_) (fun h => ?_)
  · have hlt : i < 2 := by simp at h; omega
    have hat : ([who, starS] : List ByteArray)[i]? = some (nmR who i) := by
      obtain rfl | rfl : i = 0 ∨ i = 1 := by omega
      · rfl
      · rfl
    obtain ⟨bx, ox, cx, ea, ⟨ecx, _⟩, hcx⟩ := (hsl.le hle6).el i (nmR who i) hat
    subst ecx
    simp only [Option.some.injEq, Addr.mk.injEq, and_true] at ea
    obtain ⟨rfl, rfl⟩ := ea
    obtain ⟨p0, p1, p2, p3, p4⟩ := Conf.parts (cc.le hle6)
    repeat (first | refine cg_seq ?_ | refine cg_region ?_ | refine rg_nil ?_ | refine eg_then ?_ | refine qsp ?_ | refine qsn ?_ | refine qsi ?_ | refine qsl ?_ | refine qsf ?_ | refine cg_skip ?_ | refine cg_block ?_)
    refine cg_loop (fun (j : Nat) e k' => j ≤ x.rates.length ∧ Le k6 k' ∧ (∀ r ∈ x.rates.take j, decide (r.who = nmR who i) = false) ∧ e = [(2, .is (.pointer (some ⟨s2, 0, none⟩))), (4, .is (.pointer (some ⟨s4, 0, none⟩))), (7, .is (.string (nmR who i))), (15, .is (.slice (some ⟨b5, 0, none⟩) 2 2)), (16, .is (.int .i64 2)), (17, .is (.int .i64 (i : Int))), (22, .is (.slice a2 x.rates.length c2)), (23, .is (.int .i64 (x.rates.length : Int))), (24, .is (.int .i64 (j : Int)))])
      (fun j => x.rates.length - j) 0 ⟨Nat.zero_le _, Le.refl _, by simp, rfl⟩ ⟨rfl, rfl, rfl, rfl, rfl, rfl, rfl, rfl, rfl, trivial⟩ ?_
    rintro j e k7 ⟨hj, hle7, hnj, rfl⟩
    repeat (first | refine cg_seq ?_ | refine cg_region ?_ | refine rg_nil ?_ | refine eg_then ?_ | refine qsp ?_)
    refine cg_cond rfl (fun h => ?_) (fun h => ?_)
    · have hjl : j < x.rates.length := by simpa using h
      obtain ⟨r, hrr⟩ : ∃ r, x.rates[j] = r := ⟨_, rfl⟩
      obtain ⟨by', oy, cy, ey, ⟨ecy, _⟩, hcy⟩ := (H.q.le (hle6.trans hle7)).el j r (by rw [List.getElem?_eq_getElem hjl, hrr])
      subst ecy
      rw [ey]
      repeat (first | refine cg_seq ?_ | refine cg_region ?_ | refine eg_then ?_ | refine qsi ?_ | refine qsg ?_ | refine cg_skip ?_ | refine cg_block ?_)
      refine rb rfl rfl rfl rfl (a_alloc rfl) ?_; intro s9 k9 hb9 hN9 hle9 hk9
      refine rw1 (vs := r.vs) rfl rfl rfl rfl rfl rfl rfl hk9 rfl (.inl hN9) ?_ ?_
      · simp [Rate.vs, Value.oneCell']
      intro k10 ht10 hk10
      have hle10 : Le k7 k10 := ht10 k7 hle9 hb9
      obtain ⟨t0, t1, t2⟩ := Rate.parts (cells_at (vs := r.vs) hk10 rfl)
      have cr := cells_at (vs := r.vs) hk10 rfl
      repeat (first | refine cg_seq ?_ | refine cg_region ?_ | refine rg_nil ?_ | refine eg_then ?_ | refine qsp ?_ | refine qsl ?_ | refine qsf ?_)
      cases q2 : decide (r.who = nmR who i)
      · repeat (first | refine cg_region ?_ | refine rg_nil ?_ | refine eg_then ?_ | refine qsp ?_ | refine qsa ?_ | refine cg_cond_false rfl ?_ | refine cg_skip ?_ | refine eg_in_normal ?_)
        refine eg_again (j + 1) _ ⟨hjl, hle7.trans hle10, fun r' hr' => ?_, rfl⟩ (by omega) ⟨rfl, rfl, rfl, rfl, rfl, rfl, rfl, rfl, rfl, trivial⟩
        rw [List.take_succ_eq_append_getElem hjl] at hr'
        rcases List.mem_append.1 hr' with h | h
        · exact hnj r' h
        · simp at h; rw [h, hrr]; exact q2
      · have hf : rateF x.rates (nmR who i) = some r := by
          unfold rateF
          rw [List.find?_eq_some_iff_append]
          refine ⟨q2, x.rates.take j, x.rates.drop (j + 1), ?_, fun y hy => by rw [hnj y hy]; rfl⟩
          rw [← hrr]; exact split_at hjl
        repeat (first | refine cg_seq ?_ | refine cg_region ?_ | refine qsg ?_ | refine cg_cond_true rfl ?_)
        refine rw1 (vs := r.vs) rfl rfl rfl rfl rfl rfl rfl (hle10 _ _ (hle7 _ _ (hle6 _ _ hk4))) rfl (.inl hN4) ?_ ?_
        · simp [Rate.vs, Value.oneCell']
        intro k11 ht11 hk11
        have c11 := cells_at (vs := r.vs) hk11 rfl
        repeat (first | refine rg_nil ?_ | refine eg_then ?_ | refine qsp ?_ | refine cg_ret ?_ | refine eg_then_ret ?_ | refine eg_in_ret ?_)
        exact eg_returnC2 rfl rfl rfl rfl c11 rfl (by rw [RateV, rateQ_at q1 hlt hno hf])
    · have hjl : j = x.rates.length := by simp at h; omega
      rw [hjl, List.take_length] at hnj
      repeat (first | refine cg_region ?_ | refine rg_nil ?_ | refine eg_then ?_ | refine qsp ?_ | refine qsa ?_ | refine eg_in_normal ?_ | refine cg_exit ?_ | refine eg_then_exit ?_ | refine eg_in_exit ?_)
      refine eg_again (i + 1) _ ⟨hlt, hle6.trans hle7, fun q hq => ?_, rfl⟩ (by omega) ⟨rfl, rfl, rfl, rfl, rfl, trivial⟩
      by_cases e : q = i
      · subst e
        exact List.find?_eq_none.2 fun r hr => by rw [hnj r hr]; simp
      · exact hno q (by omega)
  · have hi2 : i = 2 := by simp at h; omega
    subst hi2
    repeat (first | refine cg_seq ?_ | refine cg_region ?_ | refine eg_then ?_ | refine cg_exit ?_ | refine eg_then_exit ?_ | refine eg_in_exit ?_)
    refine rs rfl rfl (loc_det rfl (d_lit (cells := noRate.vs) rfl rfl rfl)) ?_
    skip
    refine rw1 (vs := noRate.vs) rfl rfl rfl rfl rfl rfl rfl (hle6 _ _ hk4) rfl (.inl hN4) ?_ ?_
    · simp [Rate.vs, Value.oneCell']
    intro k9 ht9 hk9
    have c9 := cells_at (vs := noRate.vs) hk9 rfl
    repeat (first | refine rg_nil ?_ | refine eg_then ?_ | refine qsp ?_ | refine cg_ret ?_)
    exact eg_returnC2 rfl rfl rfl rfl c9 rfl (by rw [RateV, rateQ_no q1 hno])
set_option maxHeartbeats 1000000 in
theorem refTopicQ_ct {k : PH} {x : Conf} {a0 : Option Addr} {c0 : Nat} {a1 : Option Addr} {c1 : Nat} {a2 : Option Addr} {c2 : Nat} {a3 : Option Addr} {c3 : Nat} (H : CfAt k x a0 c0 a1 c1 a2 c2 a3 c3) (s : ByteArray) :
    CT Tryz.prog 21 #[.agg (x.cs a0 c0 a1 c1 a2 c2 a3 c3).toArray, .string s] k (fun _ v => v = .tuple #[.agg (topQ x s).1.vs.toArray, .bool (topQ x s).2]) := by
  refine ct_of_body (l := [_, _]) Tryz.func21 rfl Tryz.ntmps21 (by simp) (fun _ _ _ _ h => h) fun F hF0 hFm => ?_
  repeat (first | refine cg_seq ?_ | refine cg_region ?_)
  refine rb rfl rfl rfl rfl (a_box rfl rfl) ?_; intro s2 k2 hb2 hN2 hle2 hk2
  refine rb rfl rfl rfl rfl (a_alloc rfl) ?_; intro s4 k4 hb4 hN4 hle4 hk4
  have H := H.le (hle2.trans hle4)
  have cc := (cells_at (vs := x.cs a0 c0 a1 c1 a2 c2 a3 c3) hk2 rfl).le hle4
  repeat (first | refine cg_seq ?_ | refine cg_region ?_ | refine rg_nil ?_ | refine eg_then ?_ | refine qsp ?_ | refine qsg ?_)
  refine rs rfl rfl (loc_call_is rfl rfl rfl rfl (refTopic_ct a1 c1 a2 c2 a3 c3 H.t s)) ?_
  repeat (first | refine cg_seq ?_ | refine cg_region ?_ | refine rg_nil ?_ | refine eg_then ?_ | refine qsp ?_ | refine qsg ?_)
  refine rs rfl rfl (loc_call_is rfl rfl rfl rfl (refCheck_ct H)) ?_
  cases q1 : confP x
  · simp only [Bool.false_eq_true, if_false]
    repeat (first | refine cg_seq ?_ | refine cg_region ?_ | refine rg_nil ?_ | refine eg_then ?_ | refine qsp ?_ | refine qso ?_ | refine cg_cond_true rfl ?_)
    refine rs rfl rfl (loc_det rfl (d_lit (cells := noTopic.vs) rfl rfl rfl)) ?_
    skip
    refine rw1 (vs := noTopic.vs) rfl rfl rfl rfl rfl rfl rfl hk4 rfl (.inl hN4) ?_ ?_
    · simp [Topic.vs, Value.oneCell']
    intro k9 ht9 hk9
    have c9 := cells_at (vs := noTopic.vs) hk9 rfl
    repeat (first | refine rg_nil ?_ | refine eg_then ?_ | refine qsp ?_ | refine cg_ret ?_ | refine eg_then_ret ?_)
    exact eg_returnC2 rfl rfl rfl rfl c9 rfl (by simp [topQ, q1])
  simp only [if_true]
  have hk := topF_known x s
  rcases idxF_cases x.topics (fun t => decide (t.name = s)) with ⟨e1, e2⟩ | ⟨i, hi, e1, e2, e3⟩
  · have e1 : topF x s = -1 := e1
    rw [e1]
    have hn : x.topics.find? (fun t => decide (t.name = s)) = none := List.find?_eq_none.2 fun t ht => by rw [e2 t ht]; simp
    repeat (first | refine cg_seq ?_ | refine cg_region ?_ | refine rg_nil ?_ | refine eg_then ?_ | refine qsp ?_ | refine cg_cond_true rfl ?_)
    refine rs rfl rfl (loc_det rfl (d_lit (cells := noTopic.vs) rfl rfl rfl)) ?_
    skip
    refine rw1 (vs := noTopic.vs) rfl rfl rfl rfl rfl rfl rfl hk4 rfl (.inl hN4) ?_ ?_
    · simp [Topic.vs, Value.oneCell']
    intro k9 ht9 hk9
    have c9 := cells_at (vs := noTopic.vs) hk9 rfl
    repeat (first | refine rg_nil ?_ | refine eg_then ?_ | refine qsp ?_ | refine cg_ret ?_ | refine eg_then_ret ?_)
    exact eg_returnC2 rfl rfl rfl rfl c9 rfl (by simp [topQ, q1, hn])
  · have e1 : topF x s = (i : Int) := e1
    rw [e1]
    obtain ⟨t, ht⟩ : ∃ t, x.topics[i] = t := ⟨_, rfl⟩
    rw [ht] at e2
    have hf : x.topics.find? (fun t => decide (t.name = s)) = some t := by
      rw [List.find?_eq_some_iff_append]
      refine ⟨e2, x.topics.take i, x.topics.drop (i + 1), ?_, fun y hy => by rw [e3 y hy]; rfl⟩
      rw [← ht]; exact split_at hi
    obtain ⟨bx, ox, cx, ea, ⟨ecx, _⟩, hcx⟩ := H.t.el i t (by rw [List.getElem?_eq_getElem hi, ht])
    subst ecx
    subst ea
    repeat (first | refine cg_seq ?_ | refine cg_region ?_ | refine rg_nil ?_ | refine eg_then ?_ | refine qsp ?_ | refine qsf ?_ | refine cg_cond_false rfl ?_ | refine cg_skip ?_)
    rw [show decide ((i : Int) < 0) = false by simp]
    obtain ⟨p0, p1, p2, p3, p4⟩ := Conf.parts cc
    repeat (first | refine qsp ?_ | refine qsi ?_ | refine qsl ?_ | refine qsg ?_)
    refine rw1 (vs := t.vs) rfl rfl rfl rfl rfl rfl rfl hk4 rfl (.inl hN4) ?_ ?_
    · simp [Topic.vs, Value.oneCell']
    intro k9 ht9 hk9
    have c9 := cells_at (vs := t.vs) hk9 rfl
    repeat (first | refine rg_nil ?_ | refine eg_then ?_ | refine qsp ?_ | refine cg_ret ?_)
    exact eg_returnC2 rfl rfl rfl rfl c9 rfl (by simp [topQ, q1, hf])
set_option maxHeartbeats 1000000 in
theorem refGoesIn_ct {k : PH} {x : Conf} (a0 : Option Addr) (c0 : Nat) (a1 : Option Addr) (c1 : Nat) (a2 : Option Addr) (c2 : Nat) {a3 : Option Addr} {c3 : Nat} (hw : Sl tWay k a3 c3 x.ways) (w : Way) :
    CT Tryz.prog 67 #[.agg (x.cs a0 c0 a1 c1 a2 c2 a3 c3).toArray, .agg w.vs.toArray] k (fun _ v => v = .bool (goesC x w)) := by
  refine ct_of_body (l := [_, _]) Tryz.func67 rfl Tryz.ntmps67 (by simp) (fun _ _ _ _ h => h) fun F hF0 hFm => ?_
  have m1 := hw.cap; have m2 := hw.max; unfold maxLen at m2
  repeat (first | refine cg_seq ?_ | refine cg_region ?_)
  refine rb rfl rfl rfl rfl (a_box rfl rfl) ?_; intro s2 k2 hb2 hN2 hle2 hk2
  refine rb rfl rfl rfl rfl (a_box rfl rfl) ?_; intro s3 k3 hb3 hN3 hle3 hk3
  have hw := hw.le (hle2.trans hle3)
  obtain ⟨p0, p1, p2, p3, p4⟩ := Conf.parts ((cells_at (vs := x.cs a0 c0 a1 c1 a2 c2 a3 c3) hk2 rfl).le hle3)
  have cw := cells_at (vs := w.vs) hk3 rfl
  repeat (first | refine cg_seq ?_ | refine cg_region ?_ | refine rg_nil ?_ | refine eg_then ?_ | refine qsp ?_ | refine qsn ?_ | refine qsl ?_ | refine qsf ?_ | refine cg_block ?_)
  refine cg_loop (fun (i : Nat) e k' => i ≤ x.ways.length ∧ Le k3 k' ∧ (∀ v ∈ x.ways.take i, decide (v = w) = false) ∧ e = [(3, .is (.pointer (some ⟨s3, 0, none⟩))), (8, .is (.slice a3 x.ways.length c3)), (9, .is (.int .i64 (x.ways.length : Int))), (10, .is (.int .i64 (i : Int)))])
    (fun i => x.ways.length - i) 0 ⟨Nat.zero_le _, Le.refl _, by simp, rfl⟩ ⟨rfl, rfl, rfl, rfl, trivial⟩ ?_
  rintro i e k1 ⟨hi, hle, hno, rfl⟩
  repeat (first | refine cg_seq ?_ | refine cg_region ?_ | refine rg_nil ?_ | refine eg_then ?_ | refine qsp ?_)
  refine cg_cond rfl (fun h => ?_) (fun h => ?_)
  · have hlt : i < x.ways.length := by simpa using h
    obtain ⟨v, hv⟩ : ∃ v, x.ways[i] = v := ⟨_, rfl⟩
    obtain ⟨bx, ox, cx, ea, ⟨ecx, _⟩, hcx⟩ := (hw.le hle).el i v (by rw [List.getElem?_eq_getElem hlt, hv])
    subst ecx
    subst ea
    repeat (first | refine cg_seq ?_ | refine cg_region ?_ | refine eg_then ?_ | refine qsi ?_ | refine qsg ?_ | refine cg_skip ?_ | refine cg_block ?_)
    refine rb rfl rfl rfl rfl (a_alloc rfl) ?_; intro s6 k6 hb6 hN6 hle6 hk6
    refine rw1 (vs := v.vs) rfl rfl rfl rfl rfl rfl rfl hk6 rfl (.inl hN6) ?_ ?_
    · simp [Way.vs, Value.oneCell']
    intro k7 ht7 hk7
    have hle7 : Le k1 k7 := ht7 k1 hle6 hb6
    have cv := cells_at (vs := v.vs) hk7 rfl
    have cw := cw.le (hle.trans hle7)
    repeat (first | refine cg_seq ?_ | refine cg_region ?_ | refine rg_nil ?_ | refine eg_then ?_ | refine qsg ?_ | refine qsE ?_)
    cases q : decide (v = w)
    · repeat (first | refine cg_region ?_ | refine rg_nil ?_ | refine eg_then ?_ | refine qsp ?_ | refine qsa ?_ | refine cg_cond_false rfl ?_ | refine cg_skip ?_ | refine eg_in_normal ?_)
      refine eg_again (i + 1) _ ⟨hlt, hle.trans hle7, fun u hu => ?_, rfl⟩ (by omega) ⟨rfl, rfl, rfl, rfl, trivial⟩
      rw [List.take_succ_eq_append_getElem hlt] at hu
      rcases List.mem_append.1 hu with h | h
      · exact hno u h
      · simp at h; rw [h, hv]; exact q
    · repeat (first | refine cg_seq ?_ | refine cg_region ?_ | refine rg_nil ?_ | refine eg_then ?_ | refine qsp ?_ | refine cg_cond_true rfl ?_ | refine cg_ret ?_ | refine eg_then_ret ?_ | refine eg_in_ret ?_)
      refine eg_return rfl rfl ?_
      have : goesC x w = true := List.any_eq_true.2 ⟨v, by rw [← hv]; exact List.getElem_mem hlt, q⟩
      rw [this]
  · have hil : i = x.ways.length := by simp at h; omega
    rw [hil, List.take_length] at hno
    repeat (first | refine cg_seq ?_ | refine cg_region ?_ | refine rg_nil ?_ | refine eg_then ?_ | refine qsp ?_ | refine cg_ret ?_ | refine cg_exit ?_ | refine eg_then_exit ?_ | refine eg_in_exit ?_)
    refine eg_return rfl rfl ?_
    have : goesC x w = false := List.any_eq_false.2 fun v hv => by rw [hno v hv]; simp
    rw [this]
set_option maxHeartbeats 1000000 in
theorem refGoes_ct {k : PH} {x : Conf} {a0 : Option Addr} {c0 : Nat} {a1 : Option Addr} {c1 : Nat} {a2 : Option Addr} {c2 : Nat} {a3 : Option Addr} {c3 : Nat} (H : CfAt k x a0 c0 a1 c1 a2 c2 a3 c3) (w : Way) :
    CT Tryz.prog 27 #[.agg (x.cs a0 c0 a1 c1 a2 c2 a3 c3).toArray, .int .i64 w.fromV, .int .i64 w.toV, .string w.topic] k (fun _ v => v = .bool (goesQ x w)) := by
  refine ct_of_body (l := [_, _, _, _]) Tryz.func27 rfl Tryz.ntmps27 (by simp) (fun _ _ _ _ h => h) fun F hF0 hFm => ?_
  repeat (first | refine cg_seq ?_ | refine cg_region ?_)
  refine rb rfl rfl rfl rfl (a_box rfl rfl) ?_; intro b2 k2 hb2 hN2 hle2 hk2
  have H := H.le hle2
  have cc := cells_at (vs := x.cs a0 c0 a1 c1 a2 c2 a3 c3) hk2 rfl
  repeat (first | refine cg_seq ?_ | refine cg_region ?_ | refine rg_nil ?_ | refine eg_then ?_ | refine qsp ?_ | refine qsg ?_)
  refine rs rfl rfl (loc_call_is rfl rfl rfl rfl (refCheck_ct H)) ?_
  cases q1 : confP x
  · simp only [Bool.false_eq_true, if_false]
    repeat (first | refine rg_nil ?_ | refine eg_then ?_ | refine qsp ?_ | refine qso ?_ | refine cg_ret ?_)
    exact eg_return rfl rfl (by rw [goesQ, q1]; rfl)
  simp only [if_true]
  repeat (first | refine qsp ?_ | refine qsg ?_)
  refine rs rfl rfl (loc_det rfl (d_lit (cells := w.vs) rfl rfl rfl)) ?_
  skip
  refine rs rfl rfl (loc_call_is rfl rfl rfl rfl (refGoesIn_ct a0 c0 a1 c1 a2 c2 H.w w)) ?_
  repeat (first | refine rg_nil ?_ | refine eg_then ?_ | refine qsp ?_ | refine cg_ret ?_)
  exact eg_return rfl rfl (by rw [goesQ, q1]; rfl)
end Go.Wm

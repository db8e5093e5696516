/-
  A topic, what somebody may, whether there is a way, the program's. Conditions: that what is handed in reads as data.
-/
import Derived.Test.YtgalkgidjpbiaaaGreatD1
import Derived.Test.YtgalkgidjpbiaaaGreatMn2
set_option linter.all false
namespace Go.Wm
open Go.RowKit Go.Proofs
attribute [local irreducible] RG CG EG WA Loc Det Alc CT Exit.then Exit.inBlock Code.wp bodyPost
def goesQ (x : Conf) (w : Way) : Bool := confP x && goesC x w
set_option maxHeartbeats 1000000 in
theorem goes_ct {k : PH} {x : Conf} {a0 : Option Addr} {c0 : Nat} {a1 : Option Addr} {c1 : Nat} {a2 : Option Addr} {c2 : Nat} {a3 : Option Addr} {c3 : Nat} (H : CfAt k x a0 c0 a1 c1 a2 c2 a3 c3) (w : Way) :
    CT Tryz.prog 35 #[.agg (x.cs a0 c0 a1 c1 a2 c2 a3 c3).toArray, .int .i64 w.fromV, .int .i64 w.toV, .string w.topic] k (fun _ v => v = .bool (goesQ x w)) := by
  refine ct_of_body (l := [_, _, _, _]) Tryz.func35 rfl Tryz.ntmps35 (by simp) (fun _ _ _ _ h => h) fun F hF0 hFm => ?_
  repeat (first | refine cg_seq ?_ | refine cg_region ?_)
  refine rb rfl rfl rfl rfl (a_box rfl rfl) ?_; intro b2 k2 hb2 hN2 hle2 hk2
  have H := H.le hle2
  have cc := cells_at (vs := x.cs a0 c0 a1 c1 a2 c2 a3 c3) hk2 rfl
  repeat (first | refine cg_seq ?_ | refine cg_region ?_ | refine rg_nil ?_ | refine eg_then ?_ | refine qsp ?_ | refine qsg ?_)
  refine rs rfl rfl (loc_call_is rfl rfl rfl rfl (check_ct H)) ?_
  cases q1 : confP x
  · simp only [Bool.false_eq_true, if_false]
    repeat (first | refine rg_nil ?_ | refine eg_then ?_ | refine qsp ?_ | refine qso ?_ | refine cg_ret ?_)
    exact eg_return rfl rfl (by rw [goesQ, q1]; rfl)
  simp only [if_true]
  obtain ⟨p0, p1, p2, p3, p4⟩ := Conf.parts cc
  repeat (first | refine qsp ?_ | refine qsl ?_ | refine qsf ?_)
  refine rs rfl rfl (loc_det rfl (d_lit (cells := w.vs) rfl rfl rfl)) ?_
  skip
  refine rs rfl rfl (loc_call_is rfl rfl rfl rfl (containsW_ct H.w w)) ?_
  repeat (first | refine rg_nil ?_ | refine eg_then ?_ | refine qsp ?_ | refine cg_ret ?_)
  exact eg_return rfl rfl (by rw [goesQ, q1]; rfl)
def noTopic : Topic := ⟨⟨#[]⟩, 0, false, 0⟩
def topQ (x : Conf) (s : ByteArray) : Topic × Bool := if confP x = true then (match x.topics.find? fun t => decide (t.name = s) with | some t => (t, true) | none => (noTopic, false)) else (noTopic, false)
/-- Does a rule speak of somebody and a topic? -/
def hitR (who topic : ByteArray) (r : Rule) : Bool := (decide (r.who = who) || decide (r.who = starS)) && (decide (r.topic = topic) || decide (r.topic = starS))
def grantN (who topic : ByteArray) (l : List Rule) : Nat := l.foldl (fun m r => if hitR who topic r = true then m ||| r.may.toNat else m) 0
def mayQ (x : Conf) (who topic : ByteArray) (what : Int) : Bool := confP x && (inI what 1 7 && decide (grantN who topic x.rules &&& what.toNat = what.toNat))
theorem grant_succ (who topic : ByteArray) {l : List Rule} {i : Nat} (h : i < l.length) : grantN who topic (l.take (i + 1)) = if hitR who topic l[i] = true then grantN who topic (l.take i) ||| l[i].may.toNat else grantN who topic (l.take i) := by
  unfold grantN
  rw [List.take_succ_eq_append_getElem h, List.foldl_append]
  rfl
theorem grant_lt (who topic : ByteArray) {l : List Rule} (h : ∀ r ∈ l, inI r.may 1 7 = true) : grantN who topic l < 8 := by
  unfold grantN
  have : ∀ (l : List Rule) (m : Nat), (∀ r ∈ l, inI r.may 1 7 = true) → m < 2 ^ 3 → l.foldl (fun m r => if hitR who topic r = true then m ||| r.may.toNat else m) m < 2 ^ 3 := by
    intro l
    induction l with
    | nil => intro m _ hm; exact hm
    | cons r l ih =>
      intro m hr hm
      refine ih _ (fun r hr' => hr r (by simp [hr'])) ?_
      have := hr r (by simp)
      simp only [inI, Bool.and_eq_true, decide_eq_true_eq] at this
      show (if hitR who topic r = true then m ||| r.may.toNat else m) < 2 ^ 3
      split
      · exact Nat.or_lt_two_pow hm (by omega)
      · exact hm
  exact this l 0 h (by decide)
set_option maxHeartbeats 2000000 in
theorem may_ct {k : PH} {x : Conf} {a0 : Option Addr} {c0 : Nat} {a1 : Option Addr} {c1 : Nat} {a2 : Option Addr} {c2 : Nat} {a3 : Option Addr} {c3 : Nat} (H : CfAt k x a0 c0 a1 c1 a2 c2 a3 c3) (who topic : ByteArray) (what : Int) :
    CT Tryz.prog 36 #[.agg (x.cs a0 c0 a1 c1 a2 c2 a3 c3).toArray, .string who, .string topic, .int .i64 what] k (fun _ v => v = .bool (mayQ x who topic what)) := by
  refine ct_of_body (l := [_, _, _, _]) Tryz.func36 rfl Tryz.ntmps36 (by simp) (fun _ _ _ _ h => h) fun F hF0 hFm => ?_
  have b1' := H.r.cap; have b2' := H.r.max; unfold maxLen at b2'
  repeat (first | refine cg_seq ?_ | refine cg_region ?_)
  refine rb rfl rfl rfl rfl (a_box rfl rfl) ?_; intro b2 k2 hb2 hN2 hle2 hk2
  have H := H.le hle2
  have cc := cells_at (vs := x.cs a0 c0 a1 c1 a2 c2 a3 c3) hk2 rfl
  repeat (first | refine cg_seq ?_ | refine cg_region ?_ | refine rg_nil ?_ | refine eg_then ?_ | refine qsp ?_ | refine qsg ?_)
  refine rs rfl rfl (loc_call_is rfl rfl rfl rfl (check_ct H)) ?_
  cases q1 : confP x
  · simp only [Bool.false_eq_true, if_false]
    repeat (first | refine cg_seq ?_ | refine cg_region ?_ | refine rg_nil ?_ | refine eg_then ?_ | refine qsp ?_ | refine qso ?_ | refine cg_cond_true rfl ?_ | refine cg_ret ?_ | refine eg_then_ret ?_)
    exact eg_return rfl rfl (by rw [mayQ, q1]; rfl)
  simp only [if_true]
  have hr : RightP ordRule (ruleP x) x.rules := (conf_parts q1).2.2.2.1
  have hmay : ∀ r ∈ x.rules, inI r.may 1 7 = true := fun r hr' => by
    obtain ⟨j, hj, rfl⟩ := List.getElem_of_mem hr'
    have := (hr j hj).1
    simp only [ruleP, Bool.and_eq_true] at this
    exact this.2.2
  repeat (first | refine qsp ?_)
  refine rs rfl rfl (loc_call_is rfl rfl rfl rfl (within_ct what 1 7)) ?_
  repeat (first | refine rg_nil ?_ | refine eg_then ?_ | refine qsp ?_)
  cases q2 : inI what 1 7
  · repeat (first | refine cg_seq ?_ | refine cg_region ?_ | refine rg_nil ?_ | refine eg_then ?_ | refine qsp ?_ | refine cg_cond_true rfl ?_ | refine cg_ret ?_ | refine eg_then_ret ?_)
    exact eg_return rfl rfl (by rw [mayQ, q1, q2]; rfl)
  have hw : 1 ≤ what ∧ what ≤ 7 := by simpa [inI] using q2
  obtain ⟨w, rfl⟩ : ∃ w : Nat, what = (w : Int) := ⟨what.toNat, by omega⟩
  obtain ⟨p0, p1, p2, p3, p4⟩ := Conf.parts cc
  repeat (first | refine cg_seq ?_ | refine cg_region ?_ | refine rg_nil ?_ | refine eg_then ?_ | refine qsp ?_ | refine qsn ?_ | refine qsl ?_ | refine qsf ?_ | refine cg_cond_false rfl ?_ | refine cg_skip ?_ | refine cg_block ?_)
  refine cg_loop (fun (i : Nat) e k' => Le k2 k' ∧ i ≤ x.rules.length ∧ e = [(1, .is (.string who)), (2, .is (.string topic)), (3, .is (.int .i64 (w : Int))), (9, .is (.int .i64 (grantN who topic (x.rules.take i) : Int))), (21, .is (.slice a1 x.rules.length c1)), (22, .is (.int .i64 (x.rules.length : Int))), (23, .is (.int .i64 (i : Int)))])
    (fun i => x.rules.length - i) 0 ⟨Le.refl _, Nat.zero_le _, rfl⟩ ⟨rfl, rfl, rfl, rfl, rfl, rfl, rfl, trivial⟩ ?_
  rintro i e k1 ⟨hle, hi, rfl⟩
  repeat (first | refine cg_seq ?_ | refine cg_region ?_ | refine rg_nil ?_ | refine eg_then ?_ | refine qsp ?_)
  refine cg_cond rfl (fun h => ?_) (fun h => ?_)
  · have hlt : i < x.rules.length := by simpa using h
    have hs := grant_succ who topic hlt
    have hgl : grantN who topic (x.rules.take i) < 8 := grant_lt who topic fun r hr => hmay r (List.mem_of_mem_take hr)
    obtain ⟨r, hri⟩ : ∃ r, x.rules[i] = r := ⟨_, rfl⟩
    have hrm := hmay r (by rw [← hri]; exact List.getElem_mem hlt)
    simp only [inI, Bool.and_eq_true, decide_eq_true_eq] at hrm
    obtain ⟨m, hm⟩ : ∃ m : Nat, r.may = (m : Int) := ⟨r.may.toNat, by omega⟩
    obtain ⟨g, hg⟩ : ∃ g, grantN who topic (x.rules.take i) = g := ⟨_, rfl⟩
    rw [hri, hg, hm, Int.toNat_natCast] at hs
    rw [hg] at hgl ⊢
    obtain ⟨bx, ox, cx, ea, ⟨ecx, hrok⟩, hcx⟩ := (H.r.le hle).el i r (by rw [List.getElem?_eq_getElem hlt, hri])
    subst ecx
    subst ea
    repeat (first | refine cg_seq ?_ | refine cg_region ?_ | refine eg_then ?_ | refine qsi ?_ | refine qsg ?_ | refine cg_skip ?_ | refine cg_block ?_)
    refine rb rfl rfl rfl rfl (a_alloc rfl) ?_; intro b5 k5 hb5 hN5 hle5 hk5
    refine rw1 (vs := r.vs) rfl rfl rfl rfl rfl rfl rfl hk5 rfl (.inl hN5) ?_ ?_
    · simp [Rule.vs, Value.oneCell']
    intro k6 ht6 hk6
    have hle6 : Le k1 k6 := ht6 k1 hle5 hb5
    obtain ⟨r0, r1, r2⟩ := Rule.parts (cells_at (vs := r.vs) hk6 rfl)
    rw [hm] at r2
    repeat (first | refine cg_seq ?_ | refine cg_region ?_ | refine rg_nil ?_ | refine eg_then ?_ | refine qsp ?_ | refine qsl ?_ | refine qsf ?_)
    cases qa : decide (r.who = who)
    · repeat (first | refine qsp ?_ | refine qsl ?_ | refine qsf ?_)
      cases qb : decide (r.who = { data := #[42] })
      · have hhit : hitR who topic r = false := by rw [hitR, qa]; unfold starS; rw [qb]; rfl
        repeat (first | refine cg_region ?_ | refine rg_nil ?_ | refine eg_then ?_ | refine qsp ?_ | refine qsa ?_ | refine qso ?_ | refine cg_cond_false rfl ?_ | refine cg_skip ?_ | refine eg_in_normal ?_)
        refine eg_again (i + 1) _ ⟨hle.trans hle6, hlt, rfl⟩ (by omega) ⟨rfl, rfl, rfl, ?_, rfl, rfl, rfl, trivial⟩
        rw [hs, hhit]; rfl
      · have q3 : (decide (r.who = who) || decide (r.who = starS)) = true := by rw [qa]; unfold starS; rw [qb]; rfl
        repeat (first | refine qsp ?_ | refine qsl ?_ | refine qsf ?_)
        cases q4 : decide (r.topic = topic)
        rotate_left
        · have hhit : hitR who topic r = true := by rw [hitR, q3, q4]; rfl
          repeat (first | refine cg_region ?_ | refine rg_nil ?_ | refine eg_then ?_ | refine qsp ?_ | refine qsl ?_ | refine qsf ?_ | refine qso ?_ | refine cg_cond_true rfl ?_)
          refine rs rfl rfl (loc_det rfl (d_orI (a := g) (b := m) rfl rfl rfl (by omega) (by omega))) ?_
          repeat (first | refine cg_region ?_ | refine rg_nil ?_ | refine eg_then ?_ | refine qsp ?_ | refine qsa ?_ | refine eg_in_normal ?_)
          refine eg_again (i + 1) _ ⟨hle.trans hle6, hlt, rfl⟩ (by omega) ⟨rfl, rfl, rfl, ?_, rfl, rfl, rfl, trivial⟩
          rw [hs, if_pos hhit]; rfl
        repeat (first | refine rg_nil ?_ | refine eg_then ?_ | refine qsp ?_ | refine qsl ?_ | refine qsf ?_)
        cases q5 : decide (r.topic = { data := #[42] })
        · have hhit : hitR who topic r = false := by rw [hitR, q3, q4]; unfold starS; rw [q5]; rfl
          repeat (first | refine cg_region ?_ | refine rg_nil ?_ | refine eg_then ?_ | refine qsp ?_ | refine qsa ?_ | refine cg_cond_false rfl ?_ | refine cg_skip ?_ | refine eg_in_normal ?_)
          refine eg_again (i + 1) _ ⟨hle.trans hle6, hlt, rfl⟩ (by omega) ⟨rfl, rfl, rfl, ?_, rfl, rfl, rfl, trivial⟩
          rw [hs, hhit]; rfl
        · have hhit : hitR who topic r = true := by rw [hitR, q3, q4]; unfold starS; rw [q5]; rfl
          repeat (first | refine cg_region ?_ | refine qsp ?_ | refine qsl ?_ | refine qsf ?_ | refine cg_cond_true rfl ?_)
          refine rs rfl rfl (loc_det rfl (d_orI (a := g) (b := m) rfl rfl rfl (by omega) (by omega))) ?_
          repeat (first | refine cg_region ?_ | refine rg_nil ?_ | refine eg_then ?_ | refine qsp ?_ | refine qsa ?_ | refine eg_in_normal ?_)
          refine eg_again (i + 1) _ ⟨hle.trans hle6, hlt, rfl⟩ (by omega) ⟨rfl, rfl, rfl, ?_, rfl, rfl, rfl, trivial⟩
          rw [hs, if_pos hhit]; rfl
    · have q3 : (decide (r.who = who) || decide (r.who = starS)) = true := by rw [qa]; rfl
      repeat (first | refine qsp ?_ | refine qsl ?_ | refine qsf ?_ | refine qso ?_)
      cases q4 : decide (r.topic = topic)
      rotate_left
      · have hhit : hitR who topic r = true := by rw [hitR, q3, q4]; rfl
        repeat (first | refine cg_region ?_ | refine rg_nil ?_ | refine eg_then ?_ | refine qsp ?_ | refine qsl ?_ | refine qsf ?_ | refine qso ?_ | refine cg_cond_true rfl ?_)
        refine rs rfl rfl (loc_det rfl (d_orI (a := g) (b := m) rfl rfl rfl (by omega) (by omega))) ?_
        repeat (first | refine cg_region ?_ | refine rg_nil ?_ | refine eg_then ?_ | refine qsp ?_ | refine qsa ?_ | refine eg_in_normal ?_)
        refine eg_again (i + 1) _ ⟨hle.trans hle6, hlt, rfl⟩ (by omega) ⟨rfl, rfl, rfl, ?_, rfl, rfl, rfl, trivial⟩
        rw [hs, if_pos hhit]; rfl
      repeat (first | refine rg_nil ?_ | refine eg_then ?_ | refine qsp ?_ | refine qsl ?_ | refine qsf ?_)
      cases q5 : decide (r.topic = { data := #[42] })
      · have hhit : hitR who topic r = false := by rw [hitR, q3, q4]; unfold starS; rw [q5]; rfl
        repeat (first | refine cg_region ?_ | refine rg_nil ?_ | refine eg_then ?_ | refine qsp ?_ | refine qsa ?_ | refine cg_cond_false rfl ?_ | refine cg_skip ?_ | refine eg_in_normal ?_)
        refine eg_again (i + 1) _ ⟨hle.trans hle6, hlt, rfl⟩ (by omega) ⟨rfl, rfl, rfl, ?_, rfl, rfl, rfl, trivial⟩
        rw [hs, hhit]; rfl
      · have hhit : hitR who topic r = true := by rw [hitR, q3, q4]; unfold starS; rw [q5]; rfl
        repeat (first | refine cg_region ?_ | refine qsp ?_ | refine qsl ?_ | refine qsf ?_ | refine cg_cond_true rfl ?_)
        refine rs rfl rfl (loc_det rfl (d_orI (a := g) (b := m) rfl rfl rfl (by omega) (by omega))) ?_
        repeat (first | refine cg_region ?_ | refine rg_nil ?_ | refine eg_then ?_ | refine qsp ?_ | refine qsa ?_ | refine eg_in_normal ?_)
        refine eg_again (i + 1) _ ⟨hle.trans hle6, hlt, rfl⟩ (by omega) ⟨rfl, rfl, rfl, ?_, rfl, rfl, rfl, trivial⟩
        rw [hs, if_pos hhit]; rfl
  · have hil : i = x.rules.length := by simp at h; omega
    subst hil
    have hgl : grantN who topic x.rules < 8 := grant_lt who topic hmay
    rw [List.take_length]
    repeat (first | refine cg_seq ?_ | refine cg_region ?_ | refine eg_then ?_ | refine qsp ?_ | refine cg_exit ?_ | refine eg_then_exit ?_ | refine eg_in_exit ?_)
    refine rs rfl rfl (loc_det rfl (d_andI (b := w) rfl rfl rfl (by omega) (by omega))) ?_
    repeat (first | refine rg_nil ?_ | refine eg_then ?_ | refine qsp ?_ | refine cg_ret ?_)
    refine eg_return rfl rfl ?_
    rw [mayQ, q1, q2, Int.toNat_natCast]
    simp only [Bool.true_and]
    congr 1
    rw [Bool.eq_iff_iff]
    simp
    omega
end Go.Wm
-- cut by zcut

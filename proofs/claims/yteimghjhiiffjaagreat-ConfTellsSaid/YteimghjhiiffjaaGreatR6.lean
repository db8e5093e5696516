/-
  What somebody may, the document's. Conditions: that what is handed in reads as data.
-/
import Derived.Test.YteimghjhiiffjaaGreatR5
import Derived.Test.YteimghjhiiffjaaGreatP2
import Derived.Test.YteimghjhiiffjaaGreatC2
set_option linter.all false
namespace Go.Wm
open Go.RowKit Go.Proofs
attribute [local irreducible] RG CG EG WA Loc Det Alc CT Exit.then Exit.inBlock Code.wp bodyPost
def bitsV (g : Nat) : List Value := [.bool (g.testBit 0), .bool (g.testBit 1), .bool (g.testBit 2)]
/-- Halfway: below j what is behind a rule, above what was. -/
def bitsH (g h j : Nat) : List Value := [.bool ((if 0 < j then h else g).testBit 0), .bool ((if 1 < j then h else g).testBit 1), .bool ((if 2 < j then h else g).testBit 2)]
theorem bitsH_same (g h : Nat) {j : Nat} (hj : j < 3) (e : h.testBit j = g.testBit j) : bitsH g h (j + 1) = bitsH g h j := by
  obtain rfl | rfl | rfl : j = 0 ∨ j = 1 ∨ j = 2 := by omega
  all_goals simp [bitsH, e]
theorem bitsH_set (g h : Nat) {j : Nat} (hj : j < 3) (e : h.testBit j = true) : (bitsH g h j).toArray.setIfInBounds (0 + j * 1) (.bool true) = (bitsH g h (j + 1)).toArray := by
  obtain rfl | rfl | rfl : j = 0 ∨ j = 1 ∨ j = 2 := by omega
  all_goals simp [bitsH, e]
theorem bit_law : ∀ g, g < 8 → ∀ w, w < 8 → decide (g &&& w = w) = ((!w.testBit 0 || g.testBit 0) && ((!w.testBit 1 || g.testBit 1) && (!w.testBit 2 || g.testBit 2))) := by decide
theorem bit_dec (a j : Nat) : decide (a / 2 ^ j % 2 = 1) = a.testBit j := Nat.testBit_eq_decide_div_mod_eq.symm
theorem bit_int (a j : Nat) : (((a / 2 ^ j % 2 : Nat) : Int) == 1) = a.testBit j := by
  rw [← bit_dec]
  generalize a / 2 ^ j % 2 = q
  rw [Bool.eq_iff_iff]
  simp only [beq_iff_eq, decide_eq_true_eq]
  omega
set_option maxHeartbeats 4000000 in
theorem refMay_ct {k : PH} {x : Conf} {a0 : Option Addr} {c0 : Nat} {a1 : Option Addr} {c1 : Nat} {a2 : Option Addr} {c2 : Nat} {a3 : Option Addr} {c3 : Nat} (H : CfAt k x a0 c0 a1 c1 a2 c2 a3 c3) (who topic : ByteArray) (what : Int) :
    CT Tryz.prog 25 #[.agg (x.cs a0 c0 a1 c1 a2 c2 a3 c3).toArray, .string who, .string topic, .int .i64 what] k (fun _ v => v = .bool (mayQ x who topic what)) := by
  refine ct_of_body (l := [_, _, _, _]) Tryz.func25 rfl Tryz.ntmps25 (by simp) (fun _ _ _ _ h => h) fun F hF0 hFm => ?_
  have b1' := H.r.cap; have b2' := H.r.max; unfold maxLen at b2'
  repeat (first | refine cg_seq ?_ | refine cg_region ?_)
  refine rb rfl rfl rfl rfl (a_box rfl rfl) ?_; intro b2 k2 hb2 hN2 hle2 hk2
  have H := H.le hle2
  have cc := cells_at (vs := x.cs a0 c0 a1 c1 a2 c2 a3 c3) hk2 rfl
  repeat (first | refine cg_seq ?_ | refine cg_region ?_ | refine rg_nil ?_ | refine eg_then ?_ | refine qsp ?_ | refine qsg ?_)
  refine rs rfl rfl (loc_call_is rfl rfl rfl rfl (refCheck_ct H)) ?_
  cases q1 : confP x
  · simp only [Bool.false_eq_true, if_false]
    repeat (first | refine cg_seq ?_ | refine cg_region ?_ | refine rg_nil ?_ | refine eg_then ?_ | refine qsp ?_ | refine qso ?_ | refine cg_cond_true rfl ?_ | refine cg_ret ?_ | refine eg_then_ret ?_)
    exact eg_return rfl rfl (by rw [mayQ, q1]; rfl)
  simp only [if_true]
  have hmay := conf_may q1
  repeat (first | refine qsp ?_)
  refine rs rfl rfl (loc_call_is rfl rfl rfl rfl (refIn_ct what 1 7)) ?_
  repeat (first | refine rg_nil ?_ | refine eg_then ?_ | refine qsp ?_)
  cases q2 : inI what 1 7
  · repeat (first | refine cg_seq ?_ | refine cg_region ?_ | refine rg_nil ?_ | refine eg_then ?_ | refine qsp ?_ | refine cg_cond_true rfl ?_ | refine cg_ret ?_ | refine eg_then_ret ?_)
    exact eg_return rfl rfl (by rw [mayQ, q1, q2]; rfl)
  have hw : 1 ≤ what ∧ what ≤ 7 := by simpa [inI] using q2
  obtain ⟨w, rfl⟩ : ∃ w : Nat, what = (w : Int) := ⟨what.toNat, by omega⟩
  repeat (first | refine cg_seq ?_ | refine cg_region ?_ | refine eg_then ?_ | refine cg_cond_false rfl ?_ | refine cg_skip ?_)
  refine rs rfl rfl (loc_det rfl (d_arr0 rfl)) ?_
  refine rb rfl rfl rfl rfl (a_alloc rfl) ?_; intro b9 k9 hb9 hN9 hle9 hk9
  refine rw1 (vs := bitsV 0) rfl rfl rfl rfl rfl rfl rfl hk9 rfl (.inl hN9) ?_ ?_
  · simp [bitsV, Value.oneCell']
  intro k10 ht10 hk10
  have hle10 : Le k2 k10 := ht10 k2 hle9 hb9
  have H := H.le hle10
  obtain ⟨p0, p1, p2, p3, p4⟩ := Conf.parts (cc.le hle10)
  repeat (first | refine cg_seq ?_ | refine cg_region ?_ | refine rg_nil ?_ | refine eg_then ?_ | refine qsp ?_ | refine qsn ?_ | refine qsl ?_ | refine qsf ?_ | refine cg_block ?_)
  refine cg_loop (fun (i : Nat) e k' => Le k2 k' ∧ k' b9 = some (.cells (bitsV (grantN who topic (x.rules.take i))).toArray 105 (0, 0)) ∧ i ≤ x.rules.length ∧ e = [(1, .is (.string who)), (2, .is (.string topic)), (3, .is (.int .i64 (w : Int))), (9, .is (.pointer (some ⟨b9, 0, none⟩))), (24, .is (.slice a1 x.rules.length c1)), (25, .is (.int .i64 (x.rules.length : Int))), (26, .is (.int .i64 (i : Int)))])
    (fun i => x.rules.length - i) 0 ⟨hle10, hk10, Nat.zero_le _, rfl⟩ ⟨rfl, rfl, rfl, rfl, rfl, rfl, rfl, trivial⟩ ?_
  rintro i e k1 ⟨hle, hkb, hi, rfl⟩
  repeat (first | refine cg_seq ?_ | refine cg_region ?_ | refine rg_nil ?_ | refine eg_then ?_ | refine qsp ?_)
  refine cg_cond rfl (fun h => ?_) (fun h => ?_)
  · have hlt : i < x.rules.length := by simpa using h
    have hs := grant_succ who topic hlt
    have hgl : grantN who topic (x.rules.take i) < 8 := grant_lt who topic fun r hr => hmay r (List.mem_of_mem_take hr)
    obtain ⟨r, hri⟩ : ∃ r, x.rules[i] = r := ⟨_, rfl⟩
    have hrm := hmay r (by rw [← hri]; exact List.getElem_mem hlt)
    simp only [inI, Bool.and_eq_true, decide_eq_true_eq] at hrm
    obtain ⟨m, hm⟩ : ∃ m : Nat, r.may = (m : Int) := ⟨r.may.toNat, by omega⟩
    obtain ⟨g, hg⟩ : ∃ g, grantN who topic (x.rules.take i) = g := ⟨_, rfl⟩
    obtain ⟨g', hg'⟩ : ∃ g', grantN who topic (x.rules.take (i + 1)) = g' := ⟨_, rfl⟩
    rw [hri, hg, hm, Int.toNat_natCast, hg'] at hs
    rw [hg] at hgl hkb
    have hbit : ∀ j, g'.testBit j = (g.testBit j || (hitR who topic r && m.testBit j)) := fun j => by
      rw [hs]
      split
      · rename_i hh; rw [Nat.testBit_or, hh]; simp
      · rename_i hh; simp [hh]
    obtain ⟨bx, ox, cx, ea, ⟨ecx, hrok⟩, hcx⟩ := ((H.r.le (Le.refl _))).el i r (by rw [List.getElem?_eq_getElem hlt, hri])
    have hcx : Cells k1 bx (ox + i * tRule.sz) cx := by
      obtain ⟨_, _, _, ea2, _, hcx2⟩ := (‹CfAt k2 x a0 c0 a1 c1 a2 c2 a3 c3›.le hle).r.el i r (by rw [List.getElem?_eq_getElem hlt, hri])
      rw [ea] at ea2
      simp only [Option.some.injEq, Addr.mk.injEq, and_true] at ea2
      obtain ⟨rfl, rfl⟩ := ea2
      rename_i cx2 hr2
      rw [ecx, ← hr2.1]
      exact hcx2
    subst ecx
    rw [ea]
    repeat (first | refine cg_seq ?_ | refine cg_region ?_ | refine eg_then ?_ | refine qsi ?_ | refine qsg ?_ | refine cg_skip ?_ | refine cg_block ?_)
    refine rb rfl rfl rfl rfl (a_alloc rfl) ?_; intro b5 k5 hb5 hN5 hle5 hk5
    refine rw1 (vs := r.vs) rfl rfl rfl rfl rfl rfl rfl hk5 rfl (.inl hN5) ?_ ?_
    · simp [Rule.vs, Value.oneCell']
    intro k6 ht6 hk6
    have hle6 : Le k1 k6 := ht6 k1 hle5 hb5
    have h95 : b9 ≠ b5 := fun e => by rw [← e, hkb] at hb5; cases hb5
    have hkb6 := hle6 _ _ hkb
    rw [show bitsV g = bitsH g g' 0 from rfl] at hkb6
    repeat (first | refine cg_seq ?_ | refine cg_region ?_ | refine rg_nil ?_ | refine eg_then ?_ | refine qsp ?_ | refine cg_block ?_)
    refine cg_loop (fun (j : Nat) e k' => Le k2 k' ∧ k' b9 = some (.cells (bitsH g g' j).toArray 105 (0, 0)) ∧ k' b5 = some (.cells r.vs.toArray 41 (0, 0)) ∧ j ≤ 3 ∧ e = [(1, .is (.string who)), (2, .is (.string topic)), (3, .is (.int .i64 (w : Int))), (9, .is (.pointer (some ⟨b9, 0, none⟩))), (11, .is (.pointer (some ⟨b5, 0, none⟩))), (24, .is (.slice a1 x.rules.length c1)), (25, .is (.int .i64 (x.rules.length : Int))), (26, .is (.int .i64 (i : Int))), (30, .is (.int .i64 (j : Int)))])
      (fun j => 3 - j) 0 ⟨hle.trans hle6, hkb6, hk6, by decide, rfl⟩ ⟨rfl, rfl, rfl, rfl, rfl, by rw [ea]; rfl, rfl, rfl, rfl, trivial⟩ ?_
    rintro j e k7 ⟨hle7, hkb7, hkr7, hj, rfl⟩
    repeat (first | refine cg_seq ?_ | refine cg_region ?_ | refine rg_nil ?_ | refine eg_then ?_ | refine qsp ?_)
    refine cg_cond rfl (fun h => ?_) (fun h => ?_)
    · have hj3 : j < 3 := by simp at h; omega
      obtain ⟨r0, r1, r2⟩ := Rule.parts (cells_at (vs := r.vs) hkr7 rfl)
      rw [hm] at r2
      repeat (first | refine cg_seq ?_ | refine cg_region ?_ | refine rg_nil ?_ | refine eg_then ?_ | refine qsp ?_ | refine qsl ?_ | refine qsf ?_ | refine cg_skip ?_ | refine cg_block ?_)
      cases qa : decide (r.who = who)
      · repeat (first | refine qsp ?_ | refine qsl ?_ | refine qsf ?_)
        cases qb : decide (r.who = { data := #[42] })
        · have hsame : g'.testBit j = g.testBit j := by rw [hbit, show hitR who topic r = false by rw [hitR, qa]; unfold starS; rw [qb]; rfl]; simp
          repeat (first | refine cg_region ?_ | refine rg_nil ?_ | refine eg_then ?_ | refine qsp ?_ | refine qsa ?_ | refine qso ?_ | refine cg_cond_false rfl ?_ | refine cg_skip ?_ | refine eg_in_normal ?_)
          exact eg_again (j + 1) _ ⟨hle7, by rw [bitsH_same g g' hj3 hsame]; exact hkb7, hkr7, hj3, rfl⟩ (by omega) ⟨rfl, rfl, rfl, rfl, rfl, rfl, rfl, rfl, rfl, trivial⟩
        · have q3 : (decide (r.who = who) || decide (r.who = starS)) = true := by rw [qa]; unfold starS; rw [qb]; rfl
          repeat (first | refine qsp ?_ | refine qsl ?_ | refine qsf ?_)
          cases q4 : decide (r.topic = topic)
          rotate_left
          · have hhit : hitR who topic r = true := by rw [hitR, q3, q4]; rfl
            repeat (first | refine qsp ?_ | refine qsl ?_ | refine qsf ?_ | refine qso ?_)
            refine rs rfl rfl (loc_det rfl (d_shrN (a := m) (b := j) rfl rfl rfl (by show j ≤ 64; omega))) ?_
            refine rs rfl rfl (loc_det rfl (d_rem (a := m / 2 ^ j) (b := 2) rfl rfl rfl (by decide))) ?_
            repeat (first | refine rg_nil ?_ | refine eg_then ?_ | refine qsp ?_)
            cases q5 : (((m / 2 ^ j % 2 : Nat) : Int) == 1)
            · have hsame : g'.testBit j = g.testBit j := by
                rw [bit_int] at q5
                rw [hbit, q5]; simp
              repeat (first | refine cg_region ?_ | refine rg_nil ?_ | refine eg_then ?_ | refine qsp ?_ | refine qsa ?_ | refine cg_cond_false rfl ?_ | refine cg_skip ?_ | refine eg_in_normal ?_)
              exact eg_again (j + 1) _ ⟨hle7, by rw [bitsH_same g g' hj3 hsame]; exact hkb7, hkr7, hj3, rfl⟩ (by omega) ⟨rfl, rfl, rfl, rfl, rfl, rfl, rfl, rfl, rfl, trivial⟩
            · have hset : g'.testBit j = true := by
                rw [bit_int] at q5
                rw [hbit, hhit, q5]; simp
              repeat (first | refine cg_region ?_ | refine qsp ?_ | refine cg_cond_true rfl ?_)
              refine rs rfl rfl (loc_det rfl (d_idxA rfl rfl rfl hj3)) ?_
              refine rw0 rfl rfl rfl rfl rfl rfl rfl rfl hkb7 ?_ (.inl hN9) ?_
              · show 0 + j * 1 < 3
                omega
              intro k8 ht8 hk8
              rw [bitsH_set g g' hj3 hset] at hk8
              repeat (first | refine cg_region ?_ | refine rg_nil ?_ | refine eg_then ?_ | refine qsp ?_ | refine qsa ?_ | refine eg_in_normal ?_)
              exact eg_again (j + 1) _ ⟨ht8 k2 hle7 hb9, hk8, turn1_get ht8 (Ne.symm h95) hkr7, hj3, rfl⟩ (by omega) ⟨rfl, rfl, rfl, rfl, rfl, rfl, rfl, rfl, rfl, trivial⟩
          repeat (first | refine qsp ?_ | refine qsl ?_ | refine qsf ?_)
          cases q6 : decide (r.topic = { data := #[42] })
          · have hsame : g'.testBit j = g.testBit j := by rw [hbit, show hitR who topic r = false by rw [hitR, q3, q4]; unfold starS; rw [q6]; rfl]; simp
            repeat (first | refine cg_region ?_ | refine rg_nil ?_ | refine eg_then ?_ | refine qsp ?_ | refine qsa ?_ | refine qso ?_ | refine cg_cond_false rfl ?_ | refine cg_skip ?_ | refine eg_in_normal ?_)
            exact eg_again (j + 1) _ ⟨hle7, by rw [bitsH_same g g' hj3 hsame]; exact hkb7, hkr7, hj3, rfl⟩ (by omega) ⟨rfl, rfl, rfl, rfl, rfl, rfl, rfl, rfl, rfl, trivial⟩
          · have hhit : hitR who topic r = true := by rw [hitR, q3, q4]; unfold starS; rw [q6]; rfl
            repeat (first | refine qsp ?_ | refine qsl ?_ | refine qsf ?_)
            refine rs rfl rfl (loc_det rfl (d_shrN (a := m) (b := j) rfl rfl rfl (by show j ≤ 64; omega))) ?_
            refine rs rfl rfl (loc_det rfl (d_rem (a := m / 2 ^ j) (b := 2) rfl rfl rfl (by decide))) ?_
            repeat (first | refine rg_nil ?_ | refine eg_then ?_ | refine qsp ?_)
            cases q5 : (((m / 2 ^ j % 2 : Nat) : Int) == 1)
            · have hsame : g'.testBit j = g.testBit j := by
                rw [bit_int] at q5
                rw [hbit, q5]; simp
              repeat (first | refine cg_region ?_ | refine rg_nil ?_ | refine eg_then ?_ | refine qsp ?_ | refine qsa ?_ | refine cg_cond_false rfl ?_ | refine cg_skip ?_ | refine eg_in_normal ?_)
              exact eg_again (j + 1) _ ⟨hle7, by rw [bitsH_same g g' hj3 hsame]; exact hkb7, hkr7, hj3, rfl⟩ (by omega) ⟨rfl, rfl, rfl, rfl, rfl, rfl, rfl, rfl, rfl, trivial⟩
            · have hset : g'.testBit j = true := by
                rw [bit_int] at q5
                rw [hbit, hhit, q5]; simp
              repeat (first | refine cg_region ?_ | refine qsp ?_ | refine cg_cond_true rfl ?_)
              refine rs rfl rfl (loc_det rfl (d_idxA rfl rfl rfl hj3)) ?_
              refine rw0 rfl rfl rfl rfl rfl rfl rfl rfl hkb7 ?_ (.inl hN9) ?_
              · show 0 + j * 1 < 3
                omega
              intro k8 ht8 hk8
              rw [bitsH_set g g' hj3 hset] at hk8
              repeat (first | refine cg_region ?_ | refine rg_nil ?_ | refine eg_then ?_ | refine qsp ?_ | refine qsa ?_ | refine eg_in_normal ?_)
              exact eg_again (j + 1) _ ⟨ht8 k2 hle7 hb9, hk8, turn1_get ht8 (Ne.symm h95) hkr7, hj3, rfl⟩ (by omega) ⟨rfl, rfl, rfl, rfl, rfl, rfl, rfl, rfl, rfl, trivial⟩
      · have q3 : (decide (r.who = who) || decide (r.who = starS)) = true := by rw [qa]; rfl
        repeat (first | refine qsp ?_ | refine qsl ?_ | refine qsf ?_ | refine qso ?_)
        cases q4 : decide (r.topic = topic)
        rotate_left
        · have hhit : hitR who topic r = true := by rw [hitR, q3, q4]; rfl
          repeat (first | refine qsp ?_ | refine qsl ?_ | refine qsf ?_ | refine qso ?_)
          refine rs rfl rfl (loc_det rfl (d_shrN (a := m) (b := j) rfl rfl rfl (by show j ≤ 64; omega))) ?_
          refine rs rfl rfl (loc_det rfl (d_rem (a := m / 2 ^ j) (b := 2) rfl rfl rfl (by decide))) ?_
          repeat (first | refine rg_nil ?_ | refine eg_then ?_ | refine qsp ?_)
          cases q5 : (((m / 2 ^ j % 2 : Nat) : Int) == 1)
          · have hsame : g'.testBit j = g.testBit j := by
              rw [bit_int] at q5
              rw [hbit, q5]; simp
            repeat (first | refine cg_region ?_ | refine rg_nil ?_ | refine eg_then ?_ | refine qsp ?_ | refine qsa ?_ | refine cg_cond_false rfl ?_ | refine cg_skip ?_ | refine eg_in_normal ?_)
            exact eg_again (j + 1) _ ⟨hle7, by rw [bitsH_same g g' hj3 hsame]; exact hkb7, hkr7, hj3, rfl⟩ (by omega) ⟨rfl, rfl, rfl, rfl, rfl, rfl, rfl, rfl, rfl, trivial⟩
          · have hset : g'.testBit j = true := by
              rw [bit_int] at q5
              rw [hbit, hhit, q5]; simp
            repeat (first | refine cg_region ?_ | refine qsp ?_ | refine cg_cond_true rfl ?_)
            refine rs rfl rfl (loc_det rfl (d_idxA rfl rfl rfl hj3)) ?_
            refine rw0 rfl rfl rfl rfl rfl rfl rfl rfl hkb7 ?_ (.inl hN9) ?_
            · show 0 + j * 1 < 3
              omega
            intro k8 ht8 hk8
            rw [bitsH_set g g' hj3 hset] at hk8
            repeat (first | refine cg_region ?_ | refine rg_nil ?_ | refine eg_then ?_ | refine qsp ?_ | refine qsa ?_ | refine eg_in_normal ?_)
            exact eg_again (j + 1) _ ⟨ht8 k2 hle7 hb9, hk8, turn1_get ht8 (Ne.symm h95) hkr7, hj3, rfl⟩ (by omega) ⟨rfl, rfl, rfl, rfl, rfl, rfl, rfl, rfl, rfl, trivial⟩
        repeat (first | refine qsp ?_ | refine qsl ?_ | refine qsf ?_)
        cases q6 : decide (r.topic = { data := #[42] })
        · have hsame : g'.testBit j = g.testBit j := by rw [hbit, show hitR who topic r = false by rw [hitR, q3, q4]; unfold starS; rw [q6]; rfl]; simp
          repeat (first | refine cg_region ?_ | refine rg_nil ?_ | refine eg_then ?_ | refine qsp ?_ | refine qsa ?_ | refine qso ?_ | refine cg_cond_false rfl ?_ | refine cg_skip ?_ | refine eg_in_normal ?_)
          exact eg_again (j + 1) _ ⟨hle7, by rw [bitsH_same g g' hj3 hsame]; exact hkb7, hkr7, hj3, rfl⟩ (by omega) ⟨rfl, rfl, rfl, rfl, rfl, rfl, rfl, rfl, rfl, trivial⟩
        · have hhit : hitR who topic r = true := by rw [hitR, q3, q4]; unfold starS; rw [q6]; rfl
          repeat (first | refine qsp ?_ | refine qsl ?_ | refine qsf ?_)
          refine rs rfl rfl (loc_det rfl (d_shrN (a := m) (b := j) rfl rfl rfl (by show j ≤ 64; omega))) ?_
          refine rs rfl rfl (loc_det rfl (d_rem (a := m / 2 ^ j) (b := 2) rfl rfl rfl (by decide))) ?_
          repeat (first | refine rg_nil ?_ | refine eg_then ?_ | refine qsp ?_)
          cases q5 : (((m / 2 ^ j % 2 : Nat) : Int) == 1)
          · have hsame : g'.testBit j = g.testBit j := by
              rw [bit_int] at q5
              rw [hbit, q5]; simp
            repeat (first | refine cg_region ?_ | refine rg_nil ?_ | refine eg_then ?_ | refine qsp ?_ | refine qsa ?_ | refine cg_cond_false rfl ?_ | refine cg_skip ?_ | refine eg_in_normal ?_)
            exact eg_again (j + 1) _ ⟨hle7, by rw [bitsH_same g g' hj3 hsame]; exact hkb7, hkr7, hj3, rfl⟩ (by omega) ⟨rfl, rfl, rfl, rfl, rfl, rfl, rfl, rfl, rfl, trivial⟩
          · have hset : g'.testBit j = true := by
              rw [bit_int] at q5
              rw [hbit, hhit, q5]; simp
            repeat (first | refine cg_region ?_ | refine qsp ?_ | refine cg_cond_true rfl ?_)
            refine rs rfl rfl (loc_det rfl (d_idxA rfl rfl rfl hj3)) ?_
            refine rw0 rfl rfl rfl rfl rfl rfl rfl rfl hkb7 ?_ (.inl hN9) ?_
            · show 0 + j * 1 < 3
              omega
            intro k8 ht8 hk8
            rw [bitsH_set g g' hj3 hset] at hk8
            repeat (first | refine cg_region ?_ | refine rg_nil ?_ | refine eg_then ?_ | refine qsp ?_ | refine qsa ?_ | refine eg_in_normal ?_)
            exact eg_again (j + 1) _ ⟨ht8 k2 hle7 hb9, hk8, turn1_get ht8 (Ne.symm h95) hkr7, hj3, rfl⟩ (by omega) ⟨rfl, rfl, rfl, rfl, rfl, rfl, rfl, rfl, rfl, trivial⟩
    · have hj3 : j = 3 := by simp at h; omega
      subst hj3
      repeat (first | refine cg_region ?_ | refine rg_nil ?_ | refine eg_then ?_ | refine qsp ?_ | refine qsa ?_ | refine eg_in_normal ?_ | refine cg_exit ?_ | refine eg_then_exit ?_ | refine eg_in_exit ?_)
      refine eg_again (i + 1) _ ⟨hle7, ?_, hlt, rfl⟩ (by omega) ⟨rfl, rfl, rfl, rfl, by rw [ea]; rfl, rfl, rfl, trivial⟩
      rw [hg']; exact hkb7
  · have hil : i = x.rules.length := by simp at h; omega
    rw [hil, List.take_length] at hkb
    have hgl : grantN who topic x.rules < 8 := grant_lt who topic hmay
    have hlaw := bit_law _ hgl w (by omega)
    obtain ⟨g, hg⟩ : ∃ g, grantN who topic x.rules = g := ⟨_, rfl⟩
    rw [hg] at hkb hlaw
    have hq : mayQ x who topic (w : Int) = ((!w.testBit 0 || g.testBit 0) && ((!w.testBit 1 || g.testBit 1) && (!w.testBit 2 || g.testBit 2))) := by
      rw [mayQ, q1, q2, Int.toNat_natCast, hg, hlaw]; rfl
    have cb := cells_at (vs := bitsV g) hkb rfl
    repeat (first | refine cg_seq ?_ | refine cg_region ?_ | refine rg_nil ?_ | refine eg_then ?_ | refine qsp ?_ | refine cg_block ?_ | refine cg_exit ?_ | refine eg_then_exit ?_ | refine eg_in_exit ?_)
    refine cg_loop (fun (j : Nat) e k' => k1 = k' ∧ j ≤ 3 ∧ (∀ q, q < j → (!w.testBit q || g.testBit q) = true) ∧ e = [(3, .is (.int .i64 (w : Int))), (9, .is (.pointer (some ⟨b9, 0, none⟩))), (65, .is (.int .i64 (j : Int)))])
      (fun j => 3 - j) 0 ⟨rfl, by decide, fun q hq => by omega, rfl⟩ ⟨rfl, rfl, rfl, trivial⟩ ?_
    rintro j e k7 ⟨rfl, hj, hno, rfl⟩
    repeat (first | refine cg_seq ?_ | refine cg_region ?_ | refine rg_nil ?_ | refine eg_then ?_ | refine qsp ?_)
    refine cg_cond rfl (fun h => ?_) (fun h => ?_)
    · have hj3 : j < 3 := by simp at h; omega
      have cj : Cells k1 b9 (0 + j * 1) [.bool (g.testBit j)] := cb.win (n := 1) (j * 1) (by
        obtain rfl | rfl | rfl : j = 0 ∨ j = 1 ∨ j = 2 := by omega
        all_goals rfl)
      repeat (first | refine cg_seq ?_ | refine cg_region ?_ | refine rg_nil ?_ | refine eg_then ?_ | refine qsp ?_ | refine cg_skip ?_ | refine cg_block ?_)
      refine rs rfl rfl (loc_det rfl (d_shrN (a := w) (b := j) rfl rfl rfl (by show j ≤ 64; omega))) ?_
      refine rs rfl rfl (loc_det rfl (d_rem (a := w / 2 ^ j) (b := 2) rfl rfl rfl (by decide))) ?_
      repeat (first | refine qsp ?_)
      cases q5 : (((w / 2 ^ j % 2 : Nat) : Int) == 1)
      · have hb : w.testBit j = false := by rw [bit_int] at q5; exact q5
        repeat (first | refine cg_region ?_ | refine rg_nil ?_ | refine eg_then ?_ | refine qsp ?_ | refine qsa ?_ | refine qso ?_ | refine cg_cond_false rfl ?_ | refine cg_skip ?_ | refine eg_in_normal ?_)
        refine eg_again (j + 1) _ ⟨rfl, hj3, fun q hq => ?_, rfl⟩ (by omega) ⟨rfl, rfl, rfl, trivial⟩
        by_cases e : q = j
        · subst e; rw [hb]; rfl
        · exact hno q (by omega)
      · have hb : w.testBit j = true := by rw [bit_int] at q5; exact q5
        repeat (first | refine qsp ?_)
        refine rs rfl rfl (loc_det rfl (d_idxA rfl rfl rfl hj3)) ?_
        repeat (first | refine rg_nil ?_ | refine eg_then ?_ | refine qsp ?_ | refine qsl ?_)
        cases q6 : g.testBit j
        · repeat (first | refine cg_seq ?_ | refine cg_region ?_ | refine rg_nil ?_ | refine eg_then ?_ | refine qsp ?_ | refine cg_cond_true rfl ?_ | refine cg_ret ?_ | refine eg_then_ret ?_ | refine eg_in_ret ?_)
          refine eg_return rfl rfl ?_
          rw [hq]
          obtain rfl | rfl | rfl : j = 0 ∨ j = 1 ∨ j = 2 := by omega
          all_goals rw [hb, q6]; simp
        · repeat (first | refine cg_region ?_ | refine rg_nil ?_ | refine eg_then ?_ | refine qsp ?_ | refine qsa ?_ | refine cg_cond_false rfl ?_ | refine cg_skip ?_ | refine eg_in_normal ?_)
          refine eg_again (j + 1) _ ⟨rfl, hj3, fun q hq => ?_, rfl⟩ (by omega) ⟨rfl, rfl, rfl, trivial⟩
          by_cases e : q = j
          · subst e; rw [q6]; simp
          · exact hno q (by omega)
    · have hj3 : j = 3 := by simp at h; omega
      subst hj3
      repeat (first | refine cg_seq ?_ | refine cg_region ?_ | refine rg_nil ?_ | refine eg_then ?_ | refine qsp ?_ | refine cg_ret ?_ | refine cg_exit ?_ | refine eg_then_exit ?_ | refine eg_in_exit ?_)
      exact eg_return rfl rfl (by rw [hq, hno 0 (by decide), hno 1 (by decide), hno 2 (by decide)]; rfl)
end Go.Wm

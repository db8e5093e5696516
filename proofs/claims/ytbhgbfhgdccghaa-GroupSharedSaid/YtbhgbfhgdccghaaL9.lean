/-
  The walk of the law on sharing. Conditions: that what is handed in reads as data.
-/
import Derived.Test.YtbhgbfhgdccghaaL8
set_option linter.all false
namespace Go.Wm
open Go.RowKit Go.Proofs
attribute [local irreducible] RG CG EG WA Loc Det Alc CT Exit.then Exit.inBlock Code.wp bodyPost
set_option maxHeartbeats 8000000 in
theorem groupShared_walk {k : PH} {g : Group} {cg : List Value} (hg : tGroup.rep k cg g) (hsml : g.small) {now : Int} (hnow : I64 now) {ta : Option Addr} {tc : Nat} {tps : List Tp} (ht : Sl tTp k ta tc tps) (htb : tps.length * Try.prog.bytesOf 41 ≤ reachBytes ∧ True) : CT Try.prog 3 #[.agg cg.toArray, .int .i64 now, .slice ta tps.length tc] k (fun _ v => v = .bool true) := by
  obtain ⟨a, c, rfl, hl, hok⟩ := hg
  have hsm := Group.smallG hsml
  refine ct_of_body (l := [_, _, _]) Try.func3 rfl Try.ntmps3 (by simp) (fun _ _ _ _ h => h) fun F hF0 hFm => ?_
  have b1 := hl.cap; have b2 := hl.max; unfold maxLen at b2
  have b3 := ht.cap; have b4 := ht.max; unfold maxLen at b4
  repeat (first | refine cg_seq ?_ | refine cg_region ?_)
  refine rb rfl rfl rfl rfl (a_box rfl rfl) ?_; intro b3 k3 hb3 hN3 hle3 hk3
  have hl3 := hl.le hle3
  have d3 := cells_at (vs := g.cs a c) hk3 rfl
  repeat (first | refine cg_seq ?_ | refine cg_region ?_ | refine rg_nil ?_ | refine eg_then ?_ | refine qsp ?_)
  refine rs rfl rfl (loc_call_is rfl rfl rfl rfl (live_ct)) ?_
  repeat (first | refine cg_seq ?_ | refine cg_region ?_ | refine rg_nil ?_ | refine eg_then ?_ | refine qsp ?_ | refine qsg ?_ | refine cg_cond_false rfl ?_ | refine cg_skip ?_)
  refine rs rfl rfl (loc_call_is rfl rfl rfl rfl (few_ct hl3)) ?_
  cases q1 : fewG g
  · repeat (first | refine cg_seq ?_ | refine cg_region ?_ | refine rg_nil ?_ | refine eg_then ?_ | refine qsp ?_ | refine qso ?_ | refine cg_cond_true rfl ?_ | refine cg_ret ?_ | refine eg_then_ret ?_)
    exact eg_return rfl rfl rfl
  repeat (first | refine qsp ?_ | refine qsn ?_)
  cases q2 : decide ((30 : Int) < (tps.length : Int))
  case true =>
    repeat (first | refine cg_seq ?_ | refine cg_region ?_ | refine rg_nil ?_ | refine eg_then ?_ | refine qsp ?_ | refine qso ?_ | refine cg_cond_true rfl ?_ | refine cg_ret ?_ | refine eg_then_ret ?_)
    exact eg_return rfl rfl rfl
  have htl : tps.length ≤ 30 := by have := of_decide_eq_false q2; omega
  have p2 := (Group.parts d3).2.2.1
  have p3 := (Group.parts d3).2.2.2
  repeat (first | refine qsg ?_)
  refine rs rfl rfl (loc_call_is rfl rfl rfl rfl (check_ct hl3 hok)) ?_
  repeat (first | refine qsp ?_)
  cases q3 : (chkG g != 0)
  case true =>
    repeat (first | refine cg_seq ?_ | refine cg_region ?_ | refine rg_nil ?_ | refine eg_then ?_ | refine qsp ?_ | refine qso ?_ | refine cg_cond_true rfl ?_ | refine cg_ret ?_ | refine eg_then_ret ?_)
    exact eg_return rfl rfl rfl
  have q3 : chkG g = 0 := by simpa using q3
  have hc := chk_all q3
  repeat (first | refine qsp ?_ | refine qsl ?_ | refine qsf ?_)
  cases q4 : (g.state != 2)
  case true =>
    repeat (first | refine cg_seq ?_ | refine cg_region ?_ | refine rg_nil ?_ | refine eg_then ?_ | refine qsp ?_ | refine qso ?_ | refine cg_cond_true rfl ?_ | refine cg_ret ?_ | refine eg_then_ret ?_)
    exact eg_return rfl rfl rfl
  have q4 : g.state = 2 := by simpa using q4
  repeat (first | refine qsp ?_)
  cases q5 : decide (now < 0)
  case true =>
    repeat (first | refine cg_seq ?_ | refine cg_region ?_ | refine rg_nil ?_ | refine eg_then ?_ | refine qsp ?_ | refine qso ?_ | refine cg_cond_true rfl ?_ | refine cg_ret ?_ | refine eg_then_ret ?_)
    exact eg_return rfl rfl rfl
  have q5 := of_decide_eq_false q5
  repeat (first | refine rg_nil ?_ | refine eg_then ?_ | refine qsp ?_)
  cases q6 : decide (now > 1099511627776)
  case true =>
    repeat (first | refine cg_seq ?_ | refine cg_region ?_ | refine rg_nil ?_ | refine eg_then ?_ | refine qsp ?_ | refine cg_cond_true rfl ?_ | refine cg_ret ?_ | refine eg_then_ret ?_)
    exact eg_return rfl rfl rfl
  have q6 := of_decide_eq_false q6
  have htm : timeOk now = true := by
    unfold timeOk
    rw [decide_eq_true (by omega), decide_eq_true (by omega)]; rfl
  have hfew := hc.few
  have ht3 := ht.le hle3
  repeat (first | refine cg_seq ?_ | refine cg_region ?_ | refine eg_then ?_ | refine qsp ?_ | refine qsl ?_ | refine qsf ?_ | refine cg_cond_false rfl ?_ | refine cg_skip ?_)
  refine rv rfl rfl rfl (loc_call rfl rfl rfl rfl (fun k k' v hle ⟨a, c, r, er, h1, h2, h3⟩ => ⟨a, c, r, er, h1, h2.le hle, h3⟩) (target_ct hl3 ht3 (by omega) (by omega))) ?_
  rintro k4 hle4 _ ⟨a4, c4, r4, er, rfl, _, _⟩
  have ht4 := ht3.le hle4
  have p3 := p3.le hle4
  repeat (first | refine cg_seq ?_ | refine cg_region ?_ | refine rg_nil ?_ | refine eg_then ?_ | refine qsp ?_)
  refine rs rfl rfl (loc_call_is rfl rfl rfl rfl (inOrder_ct ht4)) ?_
  repeat (first | refine cg_seq ?_ | refine cg_region ?_ | refine rg_nil ?_ | refine eg_then ?_ | refine qsp ?_)
  cases q7 : (er != 0)
  case true =>
    repeat (first | refine cg_seq ?_ | refine cg_region ?_ | refine rg_nil ?_ | refine eg_then ?_ | refine qsp ?_ | refine qso ?_ | refine cg_cond_true rfl ?_ | refine cg_ret ?_ | refine eg_then_ret ?_)
    exact eg_return rfl rfl rfl
  repeat (first | refine qsp ?_)
  cases q8 : decide (RightP ordTp tpOk tps)
  case false =>
    repeat (first | refine cg_seq ?_ | refine cg_region ?_ | refine rg_nil ?_ | refine eg_then ?_ | refine qsp ?_ | refine qso ?_ | refine cg_cond_true rfl ?_ | refine cg_ret ?_ | refine eg_then_ret ?_)
    exact eg_return rfl rfl rfl
  have hr := of_decide_eq_true q8
  repeat (first | refine rg_nil ?_ | refine eg_then ?_ | refine qsp ?_ | refine qsn ?_ | refine qsl ?_ | refine qsf ?_)
  cases q9 : decide ((g.l.length : Int) > 10)
  case true =>
    repeat (first | refine cg_seq ?_ | refine cg_region ?_ | refine rg_nil ?_ | refine eg_then ?_ | refine qsp ?_ | refine cg_cond_true rfl ?_ | refine cg_ret ?_ | refine eg_then_ret ?_)
    exact eg_return rfl rfl rfl
  have h10 : g.l.length ≤ 10 := by have := of_decide_eq_false q9; omega
  have hob := small_own hsm
  have hk34 := hle4 _ _ hk3
  clear p2 p3 d3
  repeat (first | refine cg_seq ?_ | refine cg_region ?_ | refine rg_nil ?_ | refine eg_then ?_ | refine qsp ?_ | refine cg_cond_false rfl ?_ | refine cg_skip ?_ | refine cg_block ?_)
  refine cg_loop (fun (i : Nat) e k' => ∃ (x : Group) (a' : Option Addr) (c' : Nat) (hb : PH), Le k hb ∧ Le hb k' ∧ hb b3 = none ∧ k' b3 = some (.cells (x.cs a' c').toArray 24 (0, 0)) ∧ Sl tMember hb a' c' x.l ∧ ChkG x ∧ x.state = 2 ∧ OwnB 4398046511104 x.l ∧ x.l.length ≤ 10 ∧ i ≤ 8 ∧ e = [(1, .is (.int .i64 now)), (2, .is (.slice ta tps.length tc)), (3, .is (.pointer (some ⟨b3, 0, none⟩))), (7, .is (.bool true)), (11, .is (.int .i64 (i : Int)))])
    (fun i => 8 - i) 0 ⟨g, a, c, k, Le.refl _, hle3.trans hle4, hb3, hk34, hl, hc, q4, hob, h10, Nat.zero_le _, rfl⟩ ⟨rfl, rfl, rfl, rfl, rfl, trivial⟩ ?_
  clear hk34 hk3 hl3 ht3 ht4 hl hle4 hle3 hob h10 q4 q1 q3 hc hsm hok hfew
  rintro i e k5 ⟨x, a5, c5, hb, hkb, hbk, hb3', hk5, hx, hxc, hxs, hxo, hx10, hi, rfl⟩
  repeat (first | refine cg_seq ?_ | refine cg_region ?_ | refine rg_nil ?_ | refine eg_then ?_ | refine qsp ?_)
  refine cg_cond rfl (fun h => ?_) (fun h => ?_)
  rotate_left
  · repeat (first | refine cg_seq ?_ | refine cg_region ?_ | refine rg_nil ?_ | refine eg_then ?_ | refine qsp ?_ | refine cg_ret ?_ | refine cg_exit ?_ | refine eg_then_exit ?_ | refine eg_in_exit ?_)
    exact eg_return rfl rfl rfl
  have hlt : i < 8 := by have := of_decide_eq_true h; omega
  have d3 := cells_at (vs := x.cs a5 c5) hk5 rfl
  repeat (first | refine cg_seq ?_ | refine cg_region ?_ | refine eg_then ?_ | refine qsp ?_ | refine qsg ?_ | refine cg_skip ?_ | refine cg_block ?_)
  refine rvh rfl rfl rfl rfl rfl rfl rfl hbk (asked_ct (g := x) hx hxc hxs hxo htm (ht.le hkb) hr htl) ?_
  rintro kA k6 _ hA1 hA2 hle6 hA3 ⟨y, ch, a6, c6, rfl, hy, hA, hyo⟩
  have kA3 : kA b3 = none := (hA2 _ _ hk5).trans hb3'
  have hk6 := hle6 _ _ hk5
  clear d3 hA2
  repeat (first | refine qsp ?_)
  refine rb rfl rfl rfl rfl (a_alloc rfl) ?_; intro b12 k7 hb7 hN7 hle7 hk7
  refine rw1 (vs := y.cs a6 c6) rfl rfl rfl rfl rfl rfl rfl hk7 rfl (.inl hN7) (by simp [Group.cs, Value.oneCell']) ?_
  intro k8 ht8 hk8
  have hle8 : Le k6 k8 := ht8 k6 hle7 hb7
  have hA8 := hA3.trans hle8
  have hk83 := hle8 _ _ hk6
  have d12 := cells_at (vs := y.cs a6 c6) hk8 rfl
  have hal := alone_ct (hy.le hA8) hA.chk.own
  clear ht8 hk7 hle7 hb7
  repeat (first | refine cg_seq ?_ | refine cg_region ?_ | refine rg_nil ?_ | refine eg_then ?_ | refine qsp ?_ | refine qsg ?_)
  refine rs rfl rfl (loc_call_is rfl rfl rfl rfl (hal)) ?_
  repeat (first | refine cg_seq ?_ | refine cg_region ?_ | refine rg_nil ?_ | refine eg_then ?_ | refine qsp ?_ | refine qsg ?_ | refine cg_cond_false rfl ?_ | refine cg_skip ?_)
  refine rw1 (vs := y.cs a6 c6) rfl rfl rfl rfl rfl rfl rfl hk83 rfl (.inl hN3) (by simp [Group.cs, Value.oneCell']) ?_
  intro k9 ht9 hk9
  have hA9 : Le kA k9 := ht9 kA hA8 kA3
  clear d12 ht9 hk83 hk8 hle8
  cases ch
  case true =>
    repeat (first | refine cg_seq ?_ | refine cg_region ?_ | refine rg_nil ?_ | refine eg_then ?_ | refine qsp ?_ | refine qsa ?_ | refine cg_cond_true rfl ?_ | refine cg_exit ?_ | refine eg_then_exit ?_ | refine eg_in_exit ?_)
    exact eg_again (i + 1) _ ⟨y, a6, c6, kA, hkb.trans hA1, hA9, kA3, hk9, hy, hA.chk, hA.st, hyo, by have := hA.len; omega, by omega, rfl⟩ (by omega) ⟨rfl, rfl, rfl, rfl, rfl, trivial⟩
  obtain ⟨hev, hcnt, hrow⟩ := ask_done hA hr
  have hylen := hA.len
  have hy9 := hy.le hA9
  have bl := hy9.cap; have bm := hy9.max; unfold maxLen at bm
  have p3 := (Group.parts (cells_at (vs := y.cs a6 c6) hk9 rfl)).2.2.2
  obtain ⟨os, hos⟩ : ∃ os, os = y.l.map (·.own) := ⟨_, rfl⟩
  have hol : os.length = y.l.length := by rw [hos, List.length_map]
  rw [← hos] at hev hcnt hrow
  repeat (first | refine cg_seq ?_ | refine cg_region ?_ | refine rg_nil ?_ | refine eg_then ?_ | refine qsp ?_ | refine cg_cond_false rfl ?_ | refine cg_skip ?_ | refine cg_block ?_)
  refine cg_loop (fun (j : Nat) e k' => ∃ v css, Le k9 k' ∧ Pieces (tSl tTp) k9 css (os.take j) ∧ Row F.w0.heap.size k' 25 1 v (os.take j).length css.flatten ∧ Apart k9 v ∧ j ≤ y.l.length ∧ e = [(2, .is (.slice ta tps.length tc)), (3, .is (.pointer (some ⟨b3, 0, none⟩))), (7, .is (.bool true)), (15, .is v), (16, .is (.int .i64 (j : Int)))])
    (fun j => y.l.length - j) 0 ⟨.slice none 0 0, [], Le.refl _, Pieces.nil _ _, row_nil _ _ _ _, apart_nil _ _ _, Nat.zero_le _, rfl⟩ ⟨rfl, rfl, rfl, rfl, rfl, trivial⟩ ?_
  rintro j e kj ⟨v, css, hlej, hpc, hrj, hap, hj, rfl⟩
  have p3j := p3.le hlej
  repeat (first | refine cg_seq ?_ | refine cg_region ?_ | refine rg_nil ?_ | refine eg_then ?_ | refine qsp ?_ | refine qsn ?_ | refine qsl ?_ | refine qsf ?_)
  refine cg_cond rfl (fun h2 => ?_) (fun h2 => ?_)
  · have hltj : j < y.l.length := by have := of_decide_eq_true h2; omega
    have htk : os.take (j + 1) = os.take j ++ [y.l[j].own] := by
      rw [List.take_succ_eq_append_getElem (by omega)]
      congr 2
      simp [hos]
    obtain ⟨bx, ox, cx, ea, ⟨a0, c0, a1, c1, rfl, ⟨_, hwo⟩, _⟩, hcx⟩ := hy9.el j y.l[j] (List.getElem?_eq_getElem hltj)
    subst ea
    obtain ⟨w, hw⟩ : ∃ w, y.l[j] = w := ⟨_, rfl⟩
    rw [hw] at hcx hwo htk
    have m3 := (Member.parts (hcx.le hlej)).2.2.2.1
    have htl' : (os.take j).length ≤ j := by rw [List.length_take]; omega
    repeat (first | refine cg_seq ?_ | refine cg_region ?_ | refine eg_then ?_ | refine qsp ?_ | refine qsi ?_ | refine qsl ?_ | refine qsf ?_ | refine cg_skip ?_ | refine cg_block ?_)
    refine rb rfl rfl rfl rfl (a_slice (cells := [.slice a1 w.own.length c1]) rfl rfl rfl rfl (by kernel_rfl) rfl) ?_; intro b17 k17 hb17 hN17 hle17 hk17
    have c17 := cells_at (vs := [.slice a1 w.own.length c1]) hk17 rfl
    refine rap rfl rfl rfl rfl rfl rfl rfl (hrj.le hle17) c17 rfl (by simp [Value.oneCell']) rfl rfl (by unfold maxLen; omega) (by omega) ?_
    intro v18 k18 hr18 ht18
    obtain ⟨hle18, hap18⟩ := ht18 k9 (hlej.trans hle17) hap
    repeat (first | refine cg_region ?_ | refine rg_nil ?_ | refine eg_then ?_ | refine qsp ?_ | refine qsa ?_ | refine eg_in_normal ?_)
    refine eg_again (j + 1) _ ⟨v18, css ++ [[.slice a1 w.own.length c1]], hle18, ?_, ?_, hap18, hltj, rfl⟩ (by omega) ⟨rfl, rfl, rfl, rfl, rfl, trivial⟩
    · rw [htk]; exact hpc.append (Pieces.one (T := tSl tTp) ⟨a1, c1, rfl, hwo⟩)
    · rw [htk]; simpa using hr18
  have hje : j = y.l.length := by have := of_decide_eq_false h2; omega
  rw [hje, ← hol, List.take_length] at hpc hrj
  clear h2 hj hje p3j
  obtain ⟨ao, co, rfl, hso⟩ := hrj.sls (T := tSl tTp) (hpc.le hlej)
  have hlt9 := ht.le (hkb.trans (hA1.trans hA9))
  have bo := hso.cap; have bp := hso.max; unfold maxLen at bp
  have d9 := cells_at (vs := y.cs a6 c6) hk9 rfl
  repeat (first | refine cg_seq ?_ | refine cg_region ?_ | refine rg_nil ?_ | refine eg_then ?_ | refine qsp ?_ | refine cg_block ?_ | refine cg_exit ?_ | refine eg_then_exit ?_ | refine eg_in_exit ?_)
  refine cg_loop (fun (p : Nat) e k' => Le kj k' ∧ p ≤ tps.length ∧ e = [(2, .is (.slice ta tps.length tc)), (3, .is (.pointer (some ⟨b3, 0, none⟩))), (7, .is (.bool true)), (15, .is (.slice ao os.length co)), (17, .is (.int .i64 (p : Int)))])
    (fun p => tps.length - p) 0 ⟨Le.refl _, Nat.zero_le _, rfl⟩ ⟨rfl, rfl, rfl, rfl, rfl, trivial⟩ ?_
  rintro p e kp ⟨hlep, hp, rfl⟩
  repeat (first | refine cg_seq ?_ | refine cg_region ?_ | refine rg_nil ?_ | refine eg_then ?_ | refine qsp ?_ | refine qsn ?_)
  refine cg_cond rfl (fun h3 => ?_) (fun h3 => ?_)
  · have hltp : p < tps.length := by have := of_decide_eq_true h3; omega
    have htp := hlt9.le (hlej.trans hlep)
    have hcp := hcnt p hltp
    obtain ⟨bt, ot, ct, et, ⟨rfl, _⟩, hct⟩ := htp.el p tps[p] (List.getElem?_eq_getElem hltp)
    subst et
    obtain ⟨t, hte⟩ : ∃ t, tps[p] = t := ⟨_, rfl⟩
    rw [hte] at hct hcp
    have hsop := hso.le hlep
    repeat (first | refine cg_seq ?_ | refine cg_region ?_ | refine rg_nil ?_ | refine eg_then ?_ | refine qsp ?_ | refine cg_skip ?_ | refine cg_block ?_)
    refine cg_loop (fun (q : Nat) e k' => Le kp k' ∧ q ≤ os.length ∧ e = [(2, .is (.slice (some ⟨bt, ot, none⟩) tps.length tc)), (3, .is (.pointer (some ⟨b3, 0, none⟩))), (7, .is (.bool true)), (15, .is (.slice ao os.length co)), (17, .is (.int .i64 (p : Int))), (18, .is (.int .i64 (((os.take q).countP (fun r => decide (t ∈ r)) : Nat) : Int))), (19, .is (.int .i64 (q : Int)))])
      (fun q => os.length - q) 0 ⟨Le.refl _, Nat.zero_le _, rfl⟩ ⟨rfl, rfl, rfl, rfl, rfl, rfl, rfl, trivial⟩ ?_
    rintro q e kq ⟨hleq, hq, rfl⟩
    repeat (first | refine cg_seq ?_ | refine cg_region ?_ | refine rg_nil ?_ | refine eg_then ?_ | refine qsp ?_ | refine qsn ?_)
    refine cg_cond rfl (fun h4 => ?_) (fun h4 => ?_)
    · have hltq : q < os.length := by have := of_decide_eq_true h4; omega
      have hcts := countP_take_succ (f := fun r => decide (t ∈ r)) hltq
      have hcle : (os.take q).countP (fun r => decide (t ∈ r)) ≤ q := Nat.le_trans List.countP_le_length (by rw [List.length_take]; omega)
      obtain ⟨br, or', cr, er', ⟨ar, acr, rfl, hsr⟩, hcr⟩ := (hsop.le hleq).el q os[q] (List.getElem?_eq_getElem hltq)
      subst er'
      obtain ⟨r, hre⟩ : ∃ r, os[q] = r := ⟨_, rfl⟩
      rw [hre] at hsr hcr hcts
      have hha := has_ct hsr t
      have hctq := hct.le hleq
      repeat (first | refine cg_seq ?_ | refine eg_then ?_ | refine cg_skip ?_ | refine cg_block ?_)
      refine cg_any (by kernel_rfl) rfl ?_
      repeat (first | refine qwp ?_ | refine qwi ?_ | refine qwl ?_ | refine qwg ?_)
      refine ws rfl (loc_call_is rfl rfl rfl rfl (hha)) ?_
      repeat (first | (refine wn rfl ?_; refine eg_then ?_))
      cases z : decide (t ∈ r)
      · rw [z] at hcts
        repeat (first | refine cg_region ?_ | refine rg_nil ?_ | refine eg_then ?_ | refine qsp ?_ | refine qsa ?_ | refine cg_cond_false rfl ?_ | refine cg_skip ?_ | refine eg_in_normal ?_)
        exact eg_again (q + 1) _ ⟨hleq, hltq, rfl⟩ (by omega) ⟨rfl, rfl, rfl, rfl, rfl, by rw [hcts]; rfl, rfl, trivial⟩
      · rw [z] at hcts
        repeat (first | refine cg_region ?_ | refine rg_nil ?_ | refine eg_then ?_ | refine qsp ?_ | refine qsa ?_ | refine cg_cond_true rfl ?_ | refine eg_in_normal ?_)
        exact eg_again (q + 1) _ ⟨hleq, hltq, rfl⟩ (by omega) ⟨rfl, rfl, rfl, rfl, rfl, by rw [hcts]; rfl, rfl, trivial⟩
    have hqe : q = os.length := by have := of_decide_eq_false h4; omega
    rw [hqe, List.take_length, hcp]
    have hwa := wanted_ct (hy9.le (hlej.trans (hlep.trans hleq))) t
    have d9q := d9.le (hlej.trans (hlep.trans hleq))
    have hctq := hct.le hleq
    repeat (first | refine cg_seq ?_ | refine cg_region ?_ | refine rg_nil ?_ | refine eg_then ?_ | refine qsp ?_ | refine cg_exit ?_ | refine eg_then_exit ?_ | refine eg_in_exit ?_)
    refine cg_any (by kernel_rfl) rfl ?_
    repeat (first | refine qwp ?_ | refine qwi ?_ | refine qwg ?_)
    refine ws rfl (loc_call_is rfl rfl rfl rfl (hwa)) ?_
    repeat (first | (refine wn rfl ?_; refine eg_then ?_))
    cases z : anyW y.l t
    · repeat (first | refine cg_seq ?_ | refine cg_region ?_ | refine rg_nil ?_ | refine eg_then ?_ | refine qsp ?_ | refine qsa ?_ | refine cg_cond_false rfl ?_ | refine cg_skip ?_ | refine eg_in_normal ?_)
      exact eg_again (p + 1) _ ⟨hlep.trans hleq, hltp, rfl⟩ (by omega) ⟨rfl, rfl, rfl, rfl, rfl, trivial⟩
    · repeat (first | refine cg_seq ?_ | refine cg_region ?_ | refine rg_nil ?_ | refine eg_then ?_ | refine qsp ?_ | refine qsa ?_ | refine cg_cond_true rfl ?_ | refine cg_cond_false rfl ?_ | refine cg_skip ?_ | refine eg_in_normal ?_)
      exact eg_again (p + 1) _ ⟨hlep.trans hleq, hltp, rfl⟩ (by omega) ⟨rfl, rfl, rfl, rfl, rfl, trivial⟩
  have hsum : lenTo os os.length ≤ 1000000 := by
    have := lenTo_bd (B := 30) (fun r hrr => Nat.le_trans (hrow r hrr) htl) os.length
    omega
  have hev' := even_ct (hy9.le (hlej.trans hlep)) (hlt9.le (hlej.trans hlep)) (hso.le hlep) (by omega) (by omega) (fun _ => hsum)
  rw [hev] at hev'
  have p3p := (Group.parts d9).2.2.2.le (hlej.trans hlep)
  repeat (first | refine cg_seq ?_ | refine cg_region ?_ | refine eg_then ?_ | refine qsp ?_ | refine qsl ?_ | refine qsf ?_ | refine cg_exit ?_ | refine eg_then_exit ?_ | refine eg_in_exit ?_)
  refine rs rfl rfl (loc_call_is rfl rfl rfl rfl (hev')) ?_
  repeat (first | refine rg_nil ?_ | refine eg_then ?_ | refine qsp ?_ | refine cg_ret ?_ | refine eg_then_ret ?_ | refine eg_in_ret ?_)
  exact eg_return rfl rfl rfl
end Go.Wm

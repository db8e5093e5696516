/-
  Check, New, the document's. Conditions: that what is handed in reads as data.
-/
import Derived.Test.YtbhgbfhgdccghaaGreatR4
set_option linter.all false
namespace Go.Wm
open Go.RowKit Go.Proofs
theorem apart_all {l : List Member} (hm : ∀ x ∈ l, memOk x = true) : (l.Pairwise fun a b => apartB a b = true) ↔ RightP ordId memOk l ∧ (statics l).Nodup ∧ (owns l).Nodup := by
  have hb : ∀ a b, apartB a b = true ↔ ordId a b < 0 ∧ (a.static ≠ ⟨#[]⟩ → a.static ≠ b.static) ∧ ∀ t ∈ a.own, t ∉ b.own := fun a b => by
    unfold apartB
    by_cases h : a.static = ⟨#[]⟩ <;> simp [h]
  have h1 : (l.Pairwise fun a b => apartB a b = true) ↔ (l.Pairwise fun a b => ordId a b < 0) ∧ (l.Pairwise fun a b => a.static ≠ ⟨#[]⟩ → a.static ≠ b.static) ∧ (l.Pairwise fun a b => ∀ t ∈ a.own, t ∉ b.own) := by
    constructor
    · intro h
      exact ⟨h.imp fun {a b} hh => ((hb a b).1 hh).1, h.imp fun {a b} hh => ((hb a b).1 hh).2.1, h.imp fun {a b} hh => ((hb a b).1 hh).2.2⟩
    · rintro ⟨h1, h2, h3⟩
      refine (List.Pairwise.and h1 (List.Pairwise.and h2 h3)).imp fun {a b} hh => (hb a b).2 hh
  have h2 : (statics l).Nodup ↔ l.Pairwise fun a b => a.static ≠ ⟨#[]⟩ → a.static ≠ b.static := by
    unfold statics List.Nodup
    rw [List.pairwise_filter, List.pairwise_map]
    constructor
    · intro h
      refine h.imp fun {a b} hh ha he => ?_
      refine hh (by simpa using ha) (by rw [← he]; simpa using ha) he
    · intro h
      exact h.imp fun {a b} hh ha _ => hh (by simpa using ha)
  have h3 : (owns l).Nodup ↔ l.Pairwise fun a b => ∀ t ∈ a.own, t ∉ b.own := by
    unfold owns List.Nodup
    rw [List.flatMap_def, List.pairwise_flatten, List.pairwise_map]
    constructor
    · rintro ⟨_, h⟩
      exact h.imp fun {a b} hh t ht htb => hh t ht t htb rfl
    · intro h
      refine ⟨fun r hr => ?_, h.imp fun {a b} hh x hx y hy e => by subst e; exact hh x hx hy⟩
      obtain ⟨x, hx, rfl⟩ := List.mem_map.1 hr
      exact ((right_iff ordL_tp).1 (memOk_right (hm x hx))).2.imp fun {a b} hlt he => by rw [he, ordTp_eq.2 rfl] at hlt; omega
  rw [h1, h2, h3, right_all]
  constructor
  · rintro ⟨a, b, c⟩; exact ⟨⟨hm, a⟩, b, c⟩
  · rintro ⟨⟨_, a⟩, b, c⟩; exact ⟨a, b, c⟩
theorem chk_ref {g : Group} (h0 : ¬ 64 < g.l.length) (h1 : isName g.name = true) (h2 : 0 ≤ g.gen) (h3 : g.gen ≤ 1048576) (h4 : g.state = stateG g.l) : chkG g = if (∀ x ∈ g.l, memOk x = true) ∧ (g.l.Pairwise fun a b => apartB a b = true) then 0 else 1 := by
  unfold chkG
  rw [if_neg h0]
  have key : ((∀ x ∈ g.l, memOk x = true) ∧ (g.l.Pairwise fun a b => apartB a b = true)) ↔ (RightP ordId memOk g.l ∧ (statics g.l).Nodup ∧ (owns g.l).Nodup) := by
    constructor
    · rintro ⟨hm, hp⟩; exact (apart_all hm).1 hp
    · rintro ⟨hr, hs⟩
      have hm := (right_all.1 hr).1
      exact ⟨hm, (apart_all hm).2 ⟨hr, hs⟩⟩
  by_cases hr : RightP ordId memOk g.l
  · rw [if_neg (fun hn => hn ⟨h1, h2, h3, h4, hr⟩)]
    by_cases hs : (statics g.l).Nodup ∧ (owns g.l).Nodup
    · have hk := key.2 ⟨hr, hs⟩
      rw [if_neg (fun hn => hn hs), if_pos hk]
    · have hk : ¬ ((∀ x ∈ g.l, memOk x = true) ∧ (g.l.Pairwise fun a b => apartB a b = true)) := fun hh => hs (key.1 hh).2
      rw [if_pos hs, if_neg hk]
  · have hk : ¬ ((∀ x ∈ g.l, memOk x = true) ∧ (g.l.Pairwise fun a b => apartB a b = true)) := fun hh => hr (key.1 hh).1
    rw [if_pos (fun hn => hr hn.2.2.2.2), if_neg hk]
attribute [local irreducible] RG CG EG WA Loc Det Alc CT Exit.then Exit.inBlock Code.wp bodyPost
set_option maxHeartbeats 1000000 in
theorem apart_ct {k : PH} {a b : Member} {ca cb : List Value} (ha : tMember.rep k ca a) (hb : tMember.rep k cb b) : CT Tryz.prog 80 #[.agg ca.toArray, .agg cb.toArray] k (fun _ v => v = .bool (apartB a b)) := by
  obtain ⟨a0, c0, a1, c1, rfl, ⟨_, ho⟩, _⟩ := ha
  obtain ⟨d0, e0, d1, e1, rfl, ⟨_, ho'⟩, _⟩ := hb
  refine ct_of_body (l := [_, _]) Tryz.func80 rfl Tryz.ntmps80 (by simp) (fun _ _ _ _ h => h) fun F hF0 hFm => ?_
  have b1 := ho.cap; have b2 := ho.max; unfold maxLen at b2
  repeat (first | refine cg_seq ?_ | refine cg_region ?_)
  refine rb rfl rfl rfl rfl (a_box rfl rfl) ?_; intro b2 k2 hb2 hN2 hle2 hk2
  skip
  refine rb rfl rfl rfl rfl (a_box rfl rfl) ?_; intro b3 k3 hb3 hN3 hle3 hk3
  obtain ⟨p0, p1, p2, p3, p4, p5⟩ := Member.parts ((cells_at (vs := a.cs a0 c0 a1 c1) hk2 rfl).le hle3)
  obtain ⟨q0, q1, q2, q3, q4, q5⟩ := Member.parts (cells_at (vs := b.cs d0 e0 d1 e1) hk3 rfl)
  have ho := ho.le (hle2.trans hle3)
  have ho' := ho'.le (hle2.trans hle3)
  have hcmp : (!decide (a.id.data.toList < b.id.data.toList)) = !decide (ordId a b < 0) := by
    congr 1
    rw [decide_eq_decide]
    exact cmpStr_lt.symm
  unfold apartB
  repeat (first | refine cg_seq ?_ | refine cg_region ?_ | refine rg_nil ?_ | refine eg_then ?_ | refine qsp ?_ | refine qsl ?_ | refine qsf ?_)
  rw [hcmp]
  cases z1 : decide (ordId a b < 0)
  · repeat (first | refine cg_seq ?_ | refine cg_region ?_ | refine rg_nil ?_ | refine eg_then ?_ | refine qsp ?_ | refine qso ?_ | refine cg_cond_true rfl ?_ | refine cg_ret ?_ | refine eg_then_ret ?_)
    exact eg_return rfl rfl rfl
  repeat (first | refine qsp ?_ | refine qsl ?_ | refine qsf ?_)
  cases z3 : decide (a.static = ⟨#[]⟩)
  · repeat (first | refine rg_nil ?_ | refine eg_then ?_ | refine qsp ?_ | refine qsl ?_ | refine qsf ?_)
    cases z4 : decide (a.static = b.static)
    · repeat (first | refine cg_seq ?_ | refine cg_region ?_ | refine rg_nil ?_ | refine eg_then ?_ | refine qsp ?_ | refine cg_cond_false rfl ?_ | refine cg_skip ?_ | refine cg_block ?_)
      refine cg_loop (fun (i : Nat) e k' => Le k3 k' ∧ i ≤ a.own.length ∧ (∀ t ∈ a.own.take i, t ∉ b.own) ∧ e = [(2, .is (.pointer (some ⟨b2, 0, none⟩))), (3, .is (.pointer (some ⟨b3, 0, none⟩))), (5, .is (.int .i64 (i : Int)))])
        (fun i => a.own.length - i) 0 ⟨Le.refl _, Nat.zero_le _, by simp, rfl⟩ ⟨rfl, rfl, rfl, trivial⟩ ?_
      rintro i e k1 ⟨hle1, hi, hno, rfl⟩
      have p3 := p3.le hle1
      have q3 := q3.le hle1
      repeat (first | refine cg_seq ?_ | refine cg_region ?_ | refine rg_nil ?_ | refine eg_then ?_ | refine qsp ?_ | refine qsn ?_ | refine qsl ?_ | refine qsf ?_)
      refine cg_cond rfl (fun h => ?_) (fun h => ?_)
      rotate_left
      · have hie : i = a.own.length := by simp at h; omega
        rw [hie, List.take_length] at hno
        repeat (first | refine cg_seq ?_ | refine cg_region ?_ | refine rg_nil ?_ | refine eg_then ?_ | refine qsp ?_ | refine cg_ret ?_ | refine cg_exit ?_ | refine eg_then_exit ?_ | refine eg_in_exit ?_)
        refine eg_return rfl rfl ?_
        rw [decide_eq_true hno]; rfl
      have hlt : i < a.own.length := by simpa using h
      obtain ⟨bx, ox, cx, ea, ⟨rfl, _⟩, hcx⟩ := (ho.le hle1).el i a.own[i] (List.getElem?_eq_getElem hlt)
      subst ea
      have hh := has_ct (ho'.le hle1) a.own[i]
      repeat (first | refine cg_seq ?_ | refine eg_then ?_ | refine cg_skip ?_ | refine cg_block ?_)
      refine cg_any (by kernel_rfl) rfl ?_
      repeat (first | refine qwp ?_ | refine qwi ?_ | refine qwl ?_ | refine qwg ?_ | refine qwf ?_)
      refine ws rfl (loc_call_is rfl rfl rfl rfl (hh)) ?_
      repeat (first | (refine wn rfl ?_; refine eg_then ?_))
      cases z2 : decide (a.own[i] ∈ b.own)
      · repeat (first | refine cg_region ?_ | refine rg_nil ?_ | refine eg_then ?_ | refine qsp ?_ | refine qsa ?_ | refine cg_cond_false rfl ?_ | refine cg_skip ?_ | refine eg_in_normal ?_)
        refine eg_again (i + 1) _ ⟨hle1, hlt, fun x hx => ?_, rfl⟩ (by omega) ⟨rfl, rfl, rfl, trivial⟩
        rw [List.take_succ_eq_append_getElem hlt] at hx
        rcases List.mem_append.1 hx with hx | hx
        · exact hno x hx
        · simp at hx; rw [hx]; exact of_decide_eq_false z2
      · repeat (first | refine cg_seq ?_ | refine cg_region ?_ | refine rg_nil ?_ | refine eg_then ?_ | refine qsp ?_ | refine cg_cond_true rfl ?_ | refine cg_ret ?_ | refine eg_then_ret ?_ | refine eg_in_ret ?_)
        refine eg_return rfl rfl ?_
        rw [show decide (∀ t ∈ a.own, t ∉ b.own) = false from decide_eq_false fun hh => hh _ (List.getElem_mem hlt) (of_decide_eq_true z2)]
        rfl
    · repeat (first | refine cg_seq ?_ | refine cg_region ?_ | refine rg_nil ?_ | refine eg_then ?_ | refine qsp ?_ | refine cg_cond_true rfl ?_ | refine cg_ret ?_ | refine eg_then_ret ?_)
      exact eg_return rfl rfl rfl
  · repeat (first | refine cg_seq ?_ | refine cg_region ?_ | refine rg_nil ?_ | refine eg_then ?_ | refine qsp ?_ | refine qso ?_ | refine cg_cond_false rfl ?_ | refine cg_skip ?_ | refine cg_block ?_)
    refine cg_loop (fun (i : Nat) e k' => Le k3 k' ∧ i ≤ a.own.length ∧ (∀ t ∈ a.own.take i, t ∉ b.own) ∧ e = [(2, .is (.pointer (some ⟨b2, 0, none⟩))), (3, .is (.pointer (some ⟨b3, 0, none⟩))), (5, .is (.int .i64 (i : Int)))])
      (fun i => a.own.length - i) 0 ⟨Le.refl _, Nat.zero_le _, by simp, rfl⟩ ⟨rfl, rfl, rfl, trivial⟩ ?_
    rintro i e k1 ⟨hle1, hi, hno, rfl⟩
    have p3 := p3.le hle1
    have q3 := q3.le hle1
    repeat (first | refine cg_seq ?_ | refine cg_region ?_ | refine rg_nil ?_ | refine eg_then ?_ | refine qsp ?_ | refine qsn ?_ | refine qsl ?_ | refine qsf ?_)
    refine cg_cond rfl (fun h => ?_) (fun h => ?_)
    rotate_left
    · have hie : i = a.own.length := by simp at h; omega
      rw [hie, List.take_length] at hno
      repeat (first | refine cg_seq ?_ | refine cg_region ?_ | refine rg_nil ?_ | refine eg_then ?_ | refine qsp ?_ | refine cg_ret ?_ | refine cg_exit ?_ | refine eg_then_exit ?_ | refine eg_in_exit ?_)
      refine eg_return rfl rfl ?_
      rw [decide_eq_true hno]; rfl
    have hlt : i < a.own.length := by simpa using h
    obtain ⟨bx, ox, cx, ea, ⟨rfl, _⟩, hcx⟩ := (ho.le hle1).el i a.own[i] (List.getElem?_eq_getElem hlt)
    subst ea
    have hh := has_ct (ho'.le hle1) a.own[i]
    repeat (first | refine cg_seq ?_ | refine eg_then ?_ | refine cg_skip ?_ | refine cg_block ?_)
    refine cg_any (by kernel_rfl) rfl ?_
    repeat (first | refine qwp ?_ | refine qwi ?_ | refine qwl ?_ | refine qwg ?_ | refine qwf ?_)
    refine ws rfl (loc_call_is rfl rfl rfl rfl (hh)) ?_
    repeat (first | (refine wn rfl ?_; refine eg_then ?_))
    cases z2 : decide (a.own[i] ∈ b.own)
    · repeat (first | refine cg_region ?_ | refine rg_nil ?_ | refine eg_then ?_ | refine qsp ?_ | refine qsa ?_ | refine cg_cond_false rfl ?_ | refine cg_skip ?_ | refine eg_in_normal ?_)
      refine eg_again (i + 1) _ ⟨hle1, hlt, fun x hx => ?_, rfl⟩ (by omega) ⟨rfl, rfl, rfl, trivial⟩
      rw [List.take_succ_eq_append_getElem hlt] at hx
      rcases List.mem_append.1 hx with hx | hx
      · exact hno x hx
      · simp at hx; rw [hx]; exact of_decide_eq_false z2
    · repeat (first | refine cg_seq ?_ | refine cg_region ?_ | refine rg_nil ?_ | refine eg_then ?_ | refine qsp ?_ | refine cg_cond_true rfl ?_ | refine cg_ret ?_ | refine eg_then_ret ?_ | refine eg_in_ret ?_)
      refine eg_return rfl rfl ?_
      rw [show decide (∀ t ∈ a.own, t ∉ b.own) = false from decide_eq_false fun hh => hh _ (List.getElem_mem hlt) (of_decide_eq_true z2)]
      rfl
set_option maxHeartbeats 2000000 in
theorem refCheck_ct {k : PH} {g : Group} {a : Option Addr} {c : Nat} (hl : Sl tMember k a c g.l) (hok : g.ok) : CT Tryz.prog 35 #[.agg (g.cs a c).toArray] k (fun _ v => v = .int .i64 (chkG g)) := by
  refine ct_of_body (l := [_]) Tryz.func35 rfl Tryz.ntmps35 (by simp) (fun _ _ _ _ h => h) fun F hF0 hFm => ?_
  have b1 := hl.cap; have b2 := hl.max; unfold maxLen at b2
  repeat (first | refine cg_seq ?_ | refine cg_region ?_)
  refine rb rfl rfl rfl rfl (a_box rfl rfl) ?_; intro b3 k3 hb3 hN3 hle3 hk3
  obtain ⟨p0, p1, p2, p3⟩ := Group.parts (cells_at (vs := g.cs a c) hk3 rfl)
  have hl := hl.le hle3
  have hnm := refName_ct (k := k3) g.name hok.1
  have hst := refState_ct hl
  repeat (first | refine cg_seq ?_ | refine cg_region ?_ | refine rg_nil ?_ | refine eg_then ?_ | refine qsp ?_ | refine qsn ?_ | refine qsl ?_ | refine qsf ?_)
  refine cg_cond rfl (fun h => ?_) (fun h => ?_)
  · repeat (first | refine cg_seq ?_ | refine cg_region ?_ | refine rg_nil ?_ | refine eg_then ?_ | refine qsp ?_ | refine cg_ret ?_ | refine eg_then_ret ?_)
    refine eg_return rfl rfl ?_
    have h : 64 < g.l.length := by simp at h; omega
    unfold chkG
    rw [if_pos h]
  have h64 : ¬ 64 < g.l.length := by simp at h; omega
  have bad : ∀ P : Prop, (isName g.name = true ∧ 0 ≤ g.gen ∧ g.gen ≤ 1048576 ∧ g.state = stateG g.l → P) → ¬ P → (Value.int .i64 1) = .int .i64 (chkG g) := fun P h1 h2 => by
    unfold chkG
    rw [if_neg h64, if_pos (fun hh => h2 (h1 ⟨hh.1, hh.2.1, hh.2.2.1, hh.2.2.2.1⟩))]
  repeat (first | refine cg_seq ?_ | refine eg_then ?_ | refine cg_skip ?_)
  refine cg_any (by kernel_rfl) rfl ?_
  repeat (first | refine qwl ?_ | refine qwf ?_)
  refine ws rfl (loc_call_is rfl rfl rfl rfl (hnm)) ?_
  repeat (first | refine qwp ?_)
  cases z1 : isName g.name
  · repeat (first | refine qwp ?_ | refine qwo ?_ | (refine wn rfl ?_; refine eg_then ?_))
    repeat (first | refine cg_seq ?_ | refine cg_region ?_ | refine rg_nil ?_ | refine eg_then ?_ | refine qsp ?_ | refine cg_cond_true rfl ?_ | refine cg_ret ?_ | refine eg_then_ret ?_)
    exact eg_return rfl rfl (bad _ (fun h => h.1) (by rw [z1]; simp))
  repeat (first | refine qwp ?_ | refine qwl ?_ | refine qwf ?_)
  cases z2 : decide (g.gen < 0)
  rotate_left
  · repeat (first | refine qwp ?_ | refine qwo ?_ | (refine wn rfl ?_; refine eg_then ?_))
    repeat (first | refine cg_seq ?_ | refine cg_region ?_ | refine rg_nil ?_ | refine eg_then ?_ | refine qsp ?_ | refine cg_cond_true rfl ?_ | refine cg_ret ?_ | refine eg_then_ret ?_)
    exact eg_return rfl rfl (bad _ (fun h => h.2.1) (by have := of_decide_eq_true z2; omega))
  repeat (first | refine qwp ?_ | refine qwl ?_ | refine qwf ?_)
  cases z3 : decide (g.gen > 1048576)
  rotate_left
  · repeat (first | refine qwp ?_ | refine qwo ?_ | (refine wn rfl ?_; refine eg_then ?_))
    repeat (first | refine cg_seq ?_ | refine cg_region ?_ | refine rg_nil ?_ | refine eg_then ?_ | refine qsp ?_ | refine cg_cond_true rfl ?_ | refine cg_ret ?_ | refine eg_then_ret ?_)
    exact eg_return rfl rfl (bad _ (fun h => h.2.2.1) (by have := of_decide_eq_true z3; omega))
  repeat (first | refine qwl ?_ | refine qwf ?_)
  refine ws rfl (loc_call_is rfl rfl rfl rfl (hst)) ?_
  repeat (first | refine qwp ?_ | (refine wn rfl ?_; refine eg_then ?_))
  cases z4 : (g.state == stateG g.l)
  · rw [show (g.state != stateG g.l) = true by simp [bne, z4]]
    skip
    repeat (first | refine cg_seq ?_ | refine cg_region ?_ | refine rg_nil ?_ | refine eg_then ?_ | refine qsp ?_ | refine cg_cond_true rfl ?_ | refine cg_ret ?_ | refine eg_then_ret ?_)
    exact eg_return rfl rfl (bad _ (fun h => h.2.2.2) (by simpa using z4))
  rw [show (g.state != stateG g.l) = false by simp [bne, z4]]
  have z2 := of_decide_eq_false z2
  have z3 := of_decide_eq_false z3
  have z4 : g.state = stateG g.l := by simpa using z4
  have hck := chk_ref h64 z1 (by omega) (by omega) z4
  rw [hck]
  skip
  repeat (first | refine cg_seq ?_ | refine cg_region ?_ | refine rg_nil ?_ | refine eg_then ?_ | refine qsp ?_ | refine cg_cond_false rfl ?_ | refine cg_skip ?_ | refine cg_block ?_)
  refine cg_loop (fun (i : Nat) e k' => Le k3 k' ∧ i ≤ g.l.length ∧ (∀ x ∈ g.l.take i, memOk x = true) ∧ ((g.l.take i).Pairwise fun a b => apartB a b = true) ∧ e = [(1, .is (.pointer (some ⟨b3, 0, none⟩))), (3, .is (.int .i64 (i : Int)))])
    (fun i => g.l.length - i) 0 ⟨Le.refl _, Nat.zero_le _, by simp, by simp, rfl⟩ ⟨rfl, rfl, trivial⟩ ?_
  rintro i e k1 ⟨hle1, hi, hno, hpw, rfl⟩
  have p3 := p3.le hle1
  have hl1 := hl.le hle1
  repeat (first | refine cg_seq ?_ | refine cg_region ?_ | refine rg_nil ?_ | refine eg_then ?_ | refine qsp ?_ | refine qsn ?_ | refine qsl ?_ | refine qsf ?_)
  refine cg_cond rfl (fun h => ?_) (fun h => ?_)
  rotate_left
  · have hie : i = g.l.length := by simp at h; omega
    rw [hie, List.take_length] at hno hpw
    repeat (first | refine cg_seq ?_ | refine cg_region ?_ | refine rg_nil ?_ | refine eg_then ?_ | refine qsp ?_ | refine cg_ret ?_ | refine cg_exit ?_ | refine eg_then_exit ?_ | refine eg_in_exit ?_)
    refine eg_return rfl rfl ?_
    rw [if_pos ⟨hno, hpw⟩]
  have hlt : i < g.l.length := by simpa using h
  obtain ⟨bx, ox, cx, ea, hrep, hcx⟩ := hl1.el i g.l[i] (List.getElem?_eq_getElem hlt)
  subst ea
  have hcl := tMember.len hrep
  have hmc := refMember_ct hrep
  obtain ⟨m, hm⟩ : ∃ m, g.l[i] = m := ⟨_, rfl⟩
  have htk := List.take_succ_eq_append_getElem hlt
  rw [hm] at hrep hmc htk
  have hmem : m ∈ g.l := hm ▸ List.getElem_mem hlt
  repeat (first | refine cg_seq ?_ | refine cg_region ?_ | refine eg_then ?_ | refine qsp ?_ | refine qsi ?_ | refine qsl ?_ | refine qsf ?_ | refine cg_skip ?_ | refine cg_block ?_)
  refine rs rfl rfl (loc_det rfl (d_load_agg (vs := cx) rfl rfl rfl hcl hcx)) ?_
  refine rs rfl rfl (loc_call_is rfl rfl rfl rfl (hmc)) ?_
  cases z5 : memOk m
  · repeat (first | refine cg_seq ?_ | refine cg_region ?_ | refine rg_nil ?_ | refine eg_then ?_ | refine qsp ?_ | refine cg_cond_true rfl ?_ | refine cg_ret ?_ | refine eg_then_ret ?_ | refine eg_in_ret ?_)
    refine eg_return rfl rfl ?_
    rw [if_neg (fun hh => by have := hh.1 m hmem; rw [z5] at this; cases this)]
  repeat (first | refine cg_seq ?_ | refine cg_region ?_ | refine rg_nil ?_ | refine eg_then ?_ | refine qsp ?_ | refine cg_cond_false rfl ?_ | refine cg_skip ?_ | refine cg_block ?_)
  refine cg_loop (fun (j : Nat) e k' => Le k1 k' ∧ j ≤ i ∧ (∀ x ∈ g.l.take j, apartB x m = true) ∧ e = [(1, .is (.pointer (some ⟨b3, 0, none⟩))), (3, .is (.int .i64 (i : Int))), (4, .is (.int .i64 (j : Int)))])
    (fun j => i - j) 0 ⟨Le.refl _, Nat.zero_le _, by simp, rfl⟩ ⟨rfl, rfl, rfl, trivial⟩ ?_
  rintro j e k2 ⟨hle2, hj, hno2, rfl⟩
  have p3 := p3.le hle2
  repeat (first | refine cg_seq ?_ | refine cg_region ?_ | refine rg_nil ?_ | refine eg_then ?_ | refine qsp ?_)
  refine cg_cond rfl (fun h2 => ?_) (fun h2 => ?_)
  rotate_left
  · have hje : j = i := by simp at h2; omega
    subst hje
    repeat (first | refine cg_region ?_ | refine rg_nil ?_ | refine eg_then ?_ | refine qsp ?_ | refine qsa ?_ | refine eg_in_normal ?_ | refine cg_exit ?_ | refine eg_then_exit ?_ | refine eg_in_exit ?_)
    refine eg_again (j + 1) _ ⟨hle1.trans hle2, hlt, fun x hx => ?_, ?_, rfl⟩ (by omega) ⟨rfl, rfl, trivial⟩
    · rw [htk] at hx
      rcases List.mem_append.1 hx with hx | hx
      · exact hno x hx
      · simp at hx; rw [hx]; exact z5
    · rw [htk]
      exact List.pairwise_append.2 ⟨hpw, List.pairwise_singleton _ _, fun x hx y hy => by simp at hy; rw [hy]; exact hno2 x hx⟩
  have hlt2 : j < i := by simpa using h2
  have hltj : j < g.l.length := by omega
  obtain ⟨by', oy, cy, eb, hrepy, hcy⟩ := (hl1.le hle2).el j g.l[j] (List.getElem?_eq_getElem hltj)
  cases eb
  have hcly := tMember.len hrepy
  have hap := apart_ct hrepy (tMember.mono hle2 hrep)
  have hcx2 := hcx.le hle2
  repeat (first | refine cg_seq ?_ | refine eg_then ?_ | refine cg_skip ?_ | refine cg_block ?_)
  refine cg_any (by kernel_rfl) rfl ?_
  repeat (first | refine qwp ?_ | refine qwi ?_ | refine qwl ?_ | refine qwf ?_)
  refine ws rfl (loc_det rfl (d_load_agg (vs := cy) rfl rfl rfl hcly hcy)) ?_
  repeat (first | refine qwp ?_ | refine qwi ?_ | refine qwl ?_ | refine qwf ?_)
  refine ws rfl (loc_det rfl (d_load_agg (vs := cx) rfl rfl rfl hcl hcx2)) ?_
  refine ws rfl (loc_call_is rfl rfl rfl rfl (hap)) ?_
  repeat (first | refine qwp ?_ | (refine wn rfl ?_; refine eg_then ?_))
  cases z6 : apartB g.l[j] m
  · repeat (first | refine cg_seq ?_ | refine cg_region ?_ | refine rg_nil ?_ | refine eg_then ?_ | refine qsp ?_ | refine cg_cond_true rfl ?_ | refine cg_ret ?_ | refine eg_then_ret ?_ | refine eg_in_ret ?_)
    refine eg_return rfl rfl ?_
    rw [if_neg (fun hh => by
      have := List.pairwise_iff_getElem.1 hh.2 j i hltj hlt hlt2
      rw [hm, z6] at this; cases this)]
  · repeat (first | refine cg_region ?_ | refine rg_nil ?_ | refine eg_then ?_ | refine qsp ?_ | refine qsa ?_ | refine cg_cond_false rfl ?_ | refine cg_skip ?_ | refine eg_in_normal ?_)
    refine eg_again (j + 1) _ ⟨hle2, hlt2, fun x hx => ?_, rfl⟩ (by omega) ⟨rfl, rfl, rfl, trivial⟩
    rw [List.take_succ_eq_append_getElem hltj] at hx
    rcases List.mem_append.1 hx with hx | hx
    · exact hno2 x hx
    · simp at hx; rw [hx]; exact z6
end Go.Wm
-- cut by zcut

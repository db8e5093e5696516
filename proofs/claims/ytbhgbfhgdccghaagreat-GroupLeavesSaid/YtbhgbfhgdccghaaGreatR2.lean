/-
  Groups alike. Conditions: that what is handed in reads as data.
-/
import Derived.Test.YtbhgbfhgdccghaaGreatR1
set_option linter.all false
namespace Go.Wm
open Go.RowKit Go.Proofs
theorem mem_eq (m m' : Member) : decide (m = m') = (decide (m.id = m'.id) && (decide (m.static = m'.static) && ((m.joined == m'.joined) && ((m.beat == m'.beat) && (decide (m.subs = m'.subs) && decide (m.own = m'.own)))))) := by
  rw [Bool.eq_iff_iff]
  cases m; cases m'
  simp
  intro _ _
  constructor
  · rintro ⟨h3, h4, h5, h6⟩; exact ⟨h5, h6, h3, h4⟩
  · rintro ⟨h5, h6, h3, h4⟩; exact ⟨h3, h4, h5, h6⟩
attribute [local irreducible] RG CG EG WA Loc Det Alc CT Exit.then Exit.inBlock Code.wp bodyPost
set_option maxHeartbeats 1000000 in
theorem sameMem_ct {k : PH} {m m' : Member} {cm cm' : List Value} (hm : tMember.rep k cm m) (hm' : tMember.rep k cm' m') : CT Tryz.prog 42 #[.agg cm.toArray, .agg cm'.toArray] k (fun _ v => v = .bool (decide (m = m'))) := by
  obtain ⟨a0, c0, a1, c1, rfl, ⟨hs, ho⟩, hok⟩ := hm
  obtain ⟨d0, e0, d1, e1, rfl, ⟨hs', ho'⟩, hok'⟩ := hm'
  refine ct_of_body (l := [_, _]) Tryz.func42 rfl Tryz.ntmps42 (by simp) (fun _ _ _ _ h => h) fun F hF0 hFm => ?_
  rw [mem_eq]
  repeat (first | refine cg_seq ?_ | refine cg_region ?_)
  refine rb rfl rfl rfl rfl (a_box rfl rfl) ?_; intro b5 k5 hb5 hN5 hle5 hk5
  skip
  refine rb rfl rfl rfl rfl (a_box rfl rfl) ?_; intro b6 k6 hb6 hN6 hle6 hk6
  obtain ⟨p0, p1, p2, p3, p4, p5⟩ := Member.parts ((cells_at (vs := m.cs a0 c0 a1 c1) hk5 rfl).le hle6)
  obtain ⟨q0, q1, q2, q3, q4, q5⟩ := Member.parts (cells_at (vs := m'.cs d0 e0 d1 e1) hk6 rfl)
  have hss := sameSubs_ct (hs.le (hle5.trans hle6)) (hs'.le (hle5.trans hle6))
  have hoo := tps_ct (ho.le (hle5.trans hle6)) (ho'.le (hle5.trans hle6))
  repeat (first | refine cg_seq ?_ | refine cg_region ?_ | refine rg_nil ?_ | refine eg_then ?_ | refine qsp ?_ | refine qsl ?_ | refine qsf ?_)
  cases z1 : decide (m.id = m'.id)
  · repeat (first | refine rg_nil ?_ | refine eg_then ?_ | refine qsp ?_ | refine qso ?_ | refine cg_ret ?_)
    exact eg_return rfl rfl rfl
  repeat (first | refine qsp ?_ | refine qsl ?_ | refine qsf ?_)
  cases z2 : decide (m.static = m'.static)
  · repeat (first | refine rg_nil ?_ | refine eg_then ?_ | refine qsp ?_ | refine qso ?_ | refine cg_ret ?_)
    exact eg_return rfl rfl rfl
  repeat (first | refine qsl ?_ | refine qsf ?_)
  refine rs rfl rfl (loc_det rfl (d_eqb rfl rfl rfl)) ?_
  cases z3 : (m.joined == m'.joined)
  · repeat (first | refine rg_nil ?_ | refine eg_then ?_ | refine qsp ?_ | refine qso ?_ | refine cg_ret ?_)
    exact eg_return rfl rfl rfl
  repeat (first | refine qsp ?_ | refine qsl ?_ | refine qsf ?_)
  cases z4 : (m.beat == m'.beat)
  · repeat (first | refine rg_nil ?_ | refine eg_then ?_ | refine qsp ?_ | refine qso ?_ | refine cg_ret ?_)
    exact eg_return rfl rfl rfl
  repeat (first | refine qsl ?_ | refine qsf ?_)
  refine rs rfl rfl (loc_call_is rfl rfl rfl rfl (hss)) ?_
  cases z5 : decide (m.subs = m'.subs)
  · repeat (first | refine rg_nil ?_ | refine eg_then ?_ | refine qsp ?_ | refine qso ?_ | refine cg_ret ?_)
    exact eg_return rfl rfl rfl
  repeat (first | refine qsp ?_ | refine qsl ?_ | refine qsf ?_)
  refine rs rfl rfl (loc_call_is rfl rfl rfl rfl (hoo)) ?_
  repeat (first | refine rg_nil ?_ | refine eg_then ?_ | refine qsp ?_ | refine cg_ret ?_)
  exact eg_return rfl rfl rfl
set_option maxHeartbeats 1000000 in
theorem sameG_ct {k : PH} {g g' : Group} {a a' : Option Addr} {c c' : Nat} (hl : Sl tMember k a c g.l) (hl' : Sl tMember k a' c' g'.l) : CT Tryz.prog 11 #[.agg (g.cs a c).toArray, .agg (g'.cs a' c').toArray] k (fun _ v => v = .bool (decide (g = g'))) := by
  refine ct_of_body (l := [_, _]) Tryz.func11 rfl Tryz.ntmps11 (by simp) (fun _ _ _ _ h => h) fun F hF0 hFm => ?_
  have b1 := hl.cap; have b2 := hl.max; have b3 := hl'.cap; have b4 := hl'.max; unfold maxLen at b2 b4
  repeat (first | refine cg_seq ?_ | refine cg_region ?_)
  refine rb rfl rfl rfl rfl (a_box rfl rfl) ?_; intro b5 k5 hb5 hN5 hle5 hk5
  skip
  refine rb rfl rfl rfl rfl (a_box rfl rfl) ?_; intro b6 k6 hb6 hN6 hle6 hk6
  obtain ⟨p0, p1, p2, p3⟩ := Group.parts ((cells_at (vs := g.cs a c) hk5 rfl).le hle6)
  obtain ⟨q0, q1, q2, q3⟩ := Group.parts (cells_at (vs := g'.cs a' c') hk6 rfl)
  have no : ∀ P : Prop, (g = g' → P) → ¬ P → decide (g = g') = false := fun P h hn => decide_eq_false fun e => hn (h e)
  repeat (first | refine cg_seq ?_ | refine cg_region ?_ | refine rg_nil ?_ | refine eg_then ?_ | refine qsp ?_ | refine qsl ?_ | refine qsf ?_)
  cases z1 : decide (g.name = g'.name)
  · repeat (first | refine cg_seq ?_ | refine cg_region ?_ | refine rg_nil ?_ | refine eg_then ?_ | refine qsp ?_ | refine qso ?_ | refine cg_cond_true rfl ?_ | refine cg_ret ?_ | refine eg_then_ret ?_)
    refine eg_return rfl rfl ?_
    rw [no (g.name = g'.name) (fun e => by rw [e]) (of_decide_eq_false z1)]
  repeat (first | refine qsp ?_ | refine qsl ?_ | refine qsf ?_)
  cases z2 : (g.gen == g'.gen)
  · rw [show (g.gen != g'.gen) = true by simp [bne, z2]]
    repeat (first | refine cg_seq ?_ | refine cg_region ?_ | refine rg_nil ?_ | refine eg_then ?_ | refine qsp ?_ | refine qso ?_ | refine cg_cond_true rfl ?_ | refine cg_ret ?_ | refine eg_then_ret ?_)
    refine eg_return rfl rfl ?_
    rw [no (g.gen = g'.gen) (fun e => by rw [e]) (by simpa using z2)]
  rw [show (g.gen != g'.gen) = false by simp [bne, z2]]
  repeat (first | refine qsp ?_ | refine qsl ?_ | refine qsf ?_)
  cases z3 : (g.state == g'.state)
  · rw [show (g.state != g'.state) = true by simp [bne, z3]]
    repeat (first | refine cg_seq ?_ | refine cg_region ?_ | refine rg_nil ?_ | refine eg_then ?_ | refine qsp ?_ | refine qso ?_ | refine cg_cond_true rfl ?_ | refine cg_ret ?_ | refine eg_then_ret ?_)
    refine eg_return rfl rfl ?_
    rw [no (g.state = g'.state) (fun e => by rw [e]) (by simpa using z3)]
  rw [show (g.state != g'.state) = false by simp [bne, z3]]
  repeat (first | refine rg_nil ?_ | refine eg_then ?_ | refine qsp ?_ | refine qsn ?_ | refine qsl ?_ | refine qsf ?_)
  refine cg_cond rfl (fun h => ?_) (fun h => ?_)
  · repeat (first | refine cg_seq ?_ | refine cg_region ?_ | refine rg_nil ?_ | refine eg_then ?_ | refine qsp ?_ | refine cg_ret ?_ | refine eg_then_ret ?_)
    refine eg_return rfl rfl ?_
    rw [no (g.l.length = g'.l.length) (fun e => by rw [e]) (by simp at h; omega)]
  have heq : g.name = g'.name ∧ g.gen = g'.gen ∧ g.state = g'.state ∧ g.l.length = g'.l.length := by
    refine ⟨of_decide_eq_true z1, by simpa using z2, by simpa using z3, ?_⟩
    simp at h; omega
  have hlen := heq.2.2.2
  repeat (first | refine cg_seq ?_ | refine cg_region ?_ | refine rg_nil ?_ | refine eg_then ?_ | refine qsp ?_ | refine cg_skip ?_ | refine cg_block ?_)
  refine cg_loop (fun (i : Nat) e k' => Le k6 k' ∧ i ≤ g.l.length ∧ (∀ j, j < i → g.l[j]? = g'.l[j]?) ∧ e = [(2, .is (.pointer (some ⟨b5, 0, none⟩))), (3, .is (.pointer (some ⟨b6, 0, none⟩))), (5, .is (.int .i64 (i : Int)))])
    (fun i => g.l.length - i) 0 ⟨Le.refl _, Nat.zero_le _, fun j hj => by omega, rfl⟩ ⟨rfl, rfl, rfl, trivial⟩ ?_
  rintro i e k1 ⟨hle1, hi, hsm, rfl⟩
  have p3 := p3.le hle1
  have q3 := q3.le hle1
  repeat (first | refine cg_seq ?_ | refine cg_region ?_ | refine rg_nil ?_ | refine eg_then ?_ | refine qsp ?_ | refine qsn ?_ | refine qsl ?_ | refine qsf ?_)
  refine cg_cond rfl (fun h => ?_) (fun h => ?_)
  · have hlt : i < g.l.length := by simpa using h
    have hlt2 : i < g'.l.length := by omega
    have hk := hle5.trans (hle6.trans hle1)
    obtain ⟨bx, ox, cx, ea, hrep, hcx⟩ := hl.el i g.l[i] (List.getElem?_eq_getElem hlt)
    obtain ⟨by', oy, cy, eb, hrep', hcy⟩ := hl'.el i g'.l[i] (List.getElem?_eq_getElem hlt2)
    subst ea
    subst eb
    have hrep := tMember.mono hk hrep
    have hrep' := tMember.mono hk hrep'
    have hcx := hcx.le hk
    have hcy := hcy.le hk
    have hcl := tMember.len hrep
    have hcl' := tMember.len hrep'
    have hs := sameMem_ct hrep hrep'
    repeat (first | refine cg_seq ?_ | refine eg_then ?_ | refine cg_skip ?_ | refine cg_block ?_)
    refine cg_any (by kernel_rfl) rfl ?_
    repeat (first | refine qwp ?_ | refine qwi ?_ | refine qwl ?_ | refine qwf ?_)
    refine ws rfl (loc_det rfl (d_load_agg (vs := cx) rfl rfl rfl hcl hcx)) ?_
    repeat (first | refine qwp ?_ | refine qwi ?_ | refine qwl ?_ | refine qwf ?_)
    refine ws rfl (loc_det rfl (d_load_agg (vs := cy) rfl rfl rfl hcl' hcy)) ?_
    skip
    refine ws rfl (loc_call_is rfl rfl rfl rfl (hs)) ?_
    repeat (first | refine qwp ?_ | (refine wn rfl ?_; refine eg_then ?_))
    cases q : decide (g.l[i] = g'.l[i])
    · repeat (first | refine cg_seq ?_ | refine cg_region ?_ | refine rg_nil ?_ | refine eg_then ?_ | refine qsp ?_ | refine cg_cond_true rfl ?_ | refine cg_ret ?_ | refine eg_then_ret ?_ | refine eg_in_ret ?_)
      refine eg_return rfl rfl ?_
      rw [no (g.l[i] = g'.l[i]) (fun e => by subst e; rfl) (of_decide_eq_false q)]
    · repeat (first | refine cg_region ?_ | refine rg_nil ?_ | refine eg_then ?_ | refine qsp ?_ | refine qsa ?_ | refine cg_cond_false rfl ?_ | refine cg_skip ?_ | refine eg_in_normal ?_)
      refine eg_again (i + 1) _ ⟨hle1, hlt, fun j hj => ?_, rfl⟩ (by omega) ⟨rfl, rfl, rfl, trivial⟩
      by_cases hji : j = i
      · subst hji
        rw [List.getElem?_eq_getElem hlt, List.getElem?_eq_getElem hlt2, of_decide_eq_true q]
      · exact hsm j (by omega)
  · repeat (first | refine cg_seq ?_ | refine cg_region ?_ | refine rg_nil ?_ | refine eg_then ?_ | refine qsp ?_ | refine cg_ret ?_ | refine cg_exit ?_ | refine eg_then_exit ?_ | refine eg_in_exit ?_)
    refine eg_return rfl rfl ?_
    have hie : i = g.l.length := by simp at h; omega
    have hll : g.l = g'.l := by
      apply List.ext_getElem?
      intro j
      by_cases hj : j < g.l.length
      · exact hsm j (by omega)
      · rw [List.getElem?_eq_none (by omega), List.getElem?_eq_none (by omega)]
    have : g = g' := by
      cases g; cases g'
      simp only at heq hll
      simp [heq, hll]
    simp [this]
end Go.Wm

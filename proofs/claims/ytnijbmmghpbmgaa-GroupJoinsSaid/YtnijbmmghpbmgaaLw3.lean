/-
  How this seat's program was made. Conditions: none.
-/
import Derived.Test.YtnijbmmghpbmgaaL4
import Derived.Test.YtnijbmmghpbmgaaR11
import Derived.Test.YtnijbmmghpbmgaaDat
import Derived.Test.YtnijbmmghpbmgaaRows
set_option linter.all false
namespace Go.Wm
open Go.RowKit Go.Proofs
attribute [local irreducible] RG CG EG WA Loc Det Alc CT Exit.then Exit.inBlock Code.wp bodyPost
set_option maxHeartbeats 4000000 in
theorem groupJoins_walk {k : PH} {g : Group} {cg : List Value} (hg : tGroup.rep k cg g) (hsml : g.small) {m : Member} {cm : List Value} (hm : tMember.rep k cm m) (hmsml : m.small) {now : Int} (hnow : I64 now) {name : ByteArray} (hname : name.size ≤ maxLen) : CT Try.prog 3 #[.agg cg.toArray, .agg cm.toArray, .int .i64 now, .string name] k (fun _ v => v = .bool true) := by
  obtain ⟨a, c, rfl, hl, hok⟩ := hg
  have hm0 := hm
  obtain ⟨ma, mc, mo, mp, rfl, ⟨hms, hmo⟩, hmok⟩ := hm
  have hsm := Group.smallG hsml
  have hmb := Member.smallS hmsml
  have hname0 := hname
  unfold maxLen at hname
  refine ct_of_body (l := [_, _, _, _]) Try.func3 rfl Try.ntmps3 (by simp) (fun _ _ _ _ h => h) fun F hF0 hFm => ?_
  have b1 := hl.cap; have b2 := hl.max; unfold maxLen at b2
  repeat (first | refine cg_seq ?_ | refine cg_region ?_)
  refine rb rfl rfl rfl rfl (a_box rfl rfl) ?_; intro b4 k4 hb4 hN4 hle4 hk4
  skip
  refine rb rfl rfl rfl rfl (a_box rfl rfl) ?_; intro b5 k5 hb5 hN5 hle5 hk5
  have hk := hle4.trans hle5
  have hl := hl.le hk
  have hms := hms.le hk
  have hmo := hmo.le hk
  have hm0 := tMember.mono hk hm0
  have c4 := (cells_at (vs := g.cs a c) hk4 rfl).le hle5
  have c5 := cells_at (vs := m.cs ma mc mo mp) hk5 rfl
  repeat (first | refine cg_seq ?_ | refine cg_region ?_ | refine rg_nil ?_ | refine eg_then ?_ | refine qsp ?_)
  refine rs rfl rfl (loc_call_is rfl rfl rfl rfl (live_ct)) ?_
  repeat (first | refine cg_seq ?_ | refine cg_region ?_ | refine rg_nil ?_ | refine eg_then ?_ | refine qsp ?_ | refine qsg ?_ | refine cg_cond_false rfl ?_ | refine cg_skip ?_)
  refine rs rfl rfl (loc_call_is rfl rfl rfl rfl (fewM_ct hm0)) ?_
  repeat (first | refine cg_seq ?_ | refine cg_region ?_ | refine rg_nil ?_ | refine eg_then ?_ | refine qsp ?_ | refine qsg ?_)
  refine rs rfl rfl (loc_call_is rfl rfl rfl rfl (few_ct hl)) ?_
  cases q1 : fewG g
  · repeat (first | refine cg_seq ?_ | refine cg_region ?_ | refine rg_nil ?_ | refine eg_then ?_ | refine qsp ?_ | refine qso ?_ | refine cg_cond_true rfl ?_ | refine cg_ret ?_ | refine eg_then_ret ?_)
    exact eg_return rfl rfl rfl
  repeat (first | refine qsp ?_)
  cases q2 : fewM m
  · repeat (first | refine cg_seq ?_ | refine cg_region ?_ | refine rg_nil ?_ | refine eg_then ?_ | refine qsp ?_ | refine qso ?_ | refine cg_cond_true rfl ?_ | refine cg_ret ?_ | refine eg_then_ret ?_)
    exact eg_return rfl rfl rfl
  repeat (first | refine qsp ?_)
  refine rs rfl rfl (loc_det rfl (d_len_str rfl rfl)) ?_
  repeat (first | refine rg_nil ?_ | refine eg_then ?_ | refine qsp ?_)
  cases q3 : decide ((100 : Int) < (name.size : Int))
  case true =>
    repeat (first | refine cg_seq ?_ | refine cg_region ?_ | refine rg_nil ?_ | refine eg_then ?_ | refine qsp ?_ | refine cg_cond_true rfl ?_ | refine cg_ret ?_ | refine eg_then_ret ?_)
    exact eg_return rfl rfl rfl
  repeat (first | refine cg_seq ?_ | refine cg_region ?_ | refine eg_then ?_ | refine qsp ?_ | refine qsg ?_ | refine cg_cond_false rfl ?_ | refine cg_skip ?_)
  refine rv rfl rfl rfl (loc_call rfl rfl rfl rfl GrpV.mono (join_ct (g := g) (m := m) hl hok hsm hms hmo hmok hmb.1 hmb.2 now hnow)) ?_
  rintro k6 hle6 _ ⟨a6, c6, rfl, h6⟩
  repeat (first | refine qsp ?_)
  refine rb rfl rfl rfl rfl (a_alloc rfl) ?_; intro b11 k7 hb7 hN7 hle7 hk7
  refine rw1 (vs := (joinG g m now).1.cs a6 c6) rfl rfl rfl rfl rfl rfl rfl hk7 rfl (.inl hN7) (by simp [Group.cs, Value.oneCell']) ?_
  intro k8 ht8 hk8
  have hle8 := ht8 k6 hle7 hb7
  have hle58 := hle6.trans hle8
  have c4 := c4.le hle58
  have c5 := c5.le hle58
  have hl := hl.le hle58
  have hms := hms.le hle58
  have hmo := hmo.le hle58
  have h6 := h6.le hle8
  clear hk7 ht8 hle7 hle58 hle8 hle6 hk
  repeat (first | refine cg_seq ?_ | refine cg_region ?_ | refine rg_nil ?_ | refine eg_then ?_ | refine qsp ?_ | refine qsg ?_)
  refine rv rfl rfl rfl (loc_call rfl rfl rfl rfl GrpV.mono (refJoin_ct (g := g) (m := m) hl hok hsm hms hmo hmok hmb.1 hmb.2 now hnow)) ?_
  rintro k9 hle9 _ ⟨a9, c9, rfl, h9⟩
  repeat (first | refine qsp ?_)
  refine rb rfl rfl rfl rfl (a_alloc rfl) ?_; intro b13 k10 hb10 hN10 hle10 hk10
  refine rw1 (vs := (joinG g m now).1.cs a9 c9) rfl rfl rfl rfl rfl rfl rfl hk10 rfl (.inl hN10) (by simp [Group.cs, Value.oneCell']) ?_
  intro k11 ht11 hk11
  have hle11 := ht11 k9 hle10 hb10
  have hle811 := hle9.trans hle11
  have d11 := (cells_at (vs := (joinG g m now).1.cs a6 c6) hk8 rfl).le hle811
  have d13 := cells_at (vs := (joinG g m now).1.cs a9 c9) hk11 rfl
  have c4 := c4.le hle811
  have hl := hl.le hle811
  have h6 := h6.le hle811
  have h9 := h9.le hle11
  clear hk10 ht11 hle10 hle811 hle11 hle9 hms hmo c5 hk8 hk11
  repeat (first | refine cg_seq ?_ | refine cg_region ?_ | refine rg_nil ?_ | refine eg_then ?_ | refine qsp ?_)
  refine rv rfl rfl rfl (loc_call rfl rfl rfl rfl GrpV.mono (new_ct name hname0)) ?_
  rintro k12 hle12 _ ⟨a12, c12, rfl, h12⟩
  repeat (first | refine qsp ?_)
  refine rb rfl rfl rfl rfl (a_alloc rfl) ?_; intro b15 k13 hb13 hN13 hle13 hk13
  refine rw1 (vs := (newG name).1.cs a12 c12) rfl rfl rfl rfl rfl rfl rfl hk13 rfl (.inl hN13) (by simp [Group.cs, Value.oneCell']) ?_
  intro k14 ht14 hk14
  have hle14 := ht14 k12 hle13 hb13
  have hle1114 := hle12.trans hle14
  have h12 := h12.le hle14
  have d15 := cells_at (vs := (newG name).1.cs a12 c12) hk14 rfl
  have d11 := d11.le hle1114
  have d13 := d13.le hle1114
  have c4 := c4.le hle1114
  have hl := hl.le hle1114
  have h6 := h6.le hle1114
  have h9 := h9.le hle1114
  clear hk13 ht14 hle13 hle1114 hle14 hle12 hk14
  repeat (first | refine cg_seq ?_ | refine cg_region ?_ | refine rg_nil ?_ | refine eg_then ?_ | refine qsp ?_)
  refine rv rfl rfl rfl (loc_call rfl rfl rfl rfl GrpV.mono (refNew_ct name hname0)) ?_
  rintro k15 hle15 _ ⟨a15, c15, rfl, h15⟩
  repeat (first | refine qsp ?_)
  refine rb rfl rfl rfl rfl (a_alloc rfl) ?_; intro b17 k16 hb16 hN16 hle16 hk16
  refine rw1 (vs := (newG name).1.cs a15 c15) rfl rfl rfl rfl rfl rfl rfl hk16 rfl (.inl hN16) (by simp [Group.cs, Value.oneCell']) ?_
  intro k17 ht17 hk17
  have hle17 := ht17 k15 hle16 hb16
  have hle1417 := hle15.trans hle17
  have h15 := h15.le hle17
  have d17 := cells_at (vs := (newG name).1.cs a15 c15) hk17 rfl
  have d15 := d15.le hle1417
  have h12 := h12.le hle1417
  have d11 := d11.le hle1417
  have d13 := d13.le hle1417
  have c4 := c4.le hle1417
  have hl := hl.le hle1417
  have h6 := h6.le hle1417
  have h9 := h9.le hle1417
  clear hk16 ht17 hle16 hle1417 hle17 hle15 hk17
  have s1 := sameG_ct (g := (joinG g m now).1) (g' := (joinG g m now).1) h6 h9
  have s2 := sameG_ct (g := (newG name).1) (g' := (newG name).1) h12 h15
  rw [show decide ((joinG g m now).1 = (joinG g m now).1) = true by simp] at s1
  rw [show decide ((newG name).1 = (newG name).1) = true by simp] at s2
  repeat (first | refine cg_seq ?_ | refine cg_region ?_ | refine rg_nil ?_ | refine eg_then ?_ | refine qsp ?_ | refine qsg ?_)
  refine rs rfl rfl (loc_call_is rfl rfl rfl rfl (s1)) ?_
  repeat (first | refine qsp ?_ | refine qsg ?_)
  refine rs rfl rfl (loc_call_is rfl rfl rfl rfl (s2)) ?_
  have e1 := check_ct hl hok
  have e2 := refCheck_ct hl hok
  repeat (first | refine cg_seq ?_ | refine rg_nil ?_ | refine eg_then ?_ | refine qsp ?_)
  refine cg_any (by kernel_rfl) rfl ?_
  repeat (first | refine qwp ?_)
  rw [show ((joinG g m now).2 == (joinG g m now).2) = true by simp]
  repeat (first | refine qwp ?_)
  rw [show ((newG name).2 == (newG name).2) = true by simp]
  repeat (first | refine qwg ?_)
  refine ws rfl (loc_call_is rfl rfl rfl rfl (e1)) ?_
  repeat (first | refine qwg ?_)
  refine ws rfl (loc_call_is rfl rfl rfl rfl (e2)) ?_
  repeat (first | refine qwp ?_ | (refine wn rfl ?_; refine eg_then ?_))
  rw [show (chkG g == chkG g) = true by simp]
  skip
  repeat (first | refine cg_ret ?_)
  exact eg_return rfl rfl rfl
end Go.Wm
namespace Go.Wm
open Go.RowKit Go.Proofs
theorem mayEnter_ok : Try.prog.mayEnter = true := by kernel_rfl
end Go.Wm
namespace Go.Wm
open Go.RowKit Go.Proofs
theorem liftsFinal_nil : Try.prog.liftsFinal = false := by kernel_rfl
end Go.Wm
namespace Go.Wm
open Go.RowKit Go.Proofs
theorem make_eq : Try.prog.make = some (({ program := "", sum := "", func := "", spec := "" } : OpenClaim).make) := by kernel_rfl
end Go.Wm

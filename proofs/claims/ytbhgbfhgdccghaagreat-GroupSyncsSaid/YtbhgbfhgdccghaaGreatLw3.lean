/-
  How this seat's program was made. Conditions: none.
-/
import Derived.Test.YtbhgbfhgdccghaaGreatL1
import Derived.Test.YtbhgbfhgdccghaaGreatR1
import Derived.Test.YtbhgbfhgdccghaaGreatK14
import Derived.Test.YtbhgbfhgdccghaaGreatN12
import Derived.Test.YtbhgbfhgdccghaaGreatS4
import Derived.Test.YtbhgbfhgdccghaaGreatR2
import Derived.Test.YtbhgbfhgdccghaaGreatDat
import Derived.Test.YtbhgbfhgdccghaaGreatRows
set_option linter.all false
namespace Go.Wm
open Go.RowKit Go.Proofs
theorem bytes28 : Tryz.prog.bytesOf 44 = 96 := by kernel_rfl
theorem bytes9 : Tryz.prog.bytesOf 9 = 16 := by kernel_rfl
theorem bytes63 : Tryz.prog.bytesOf 53 = 32 := by kernel_rfl
theorem reach47 : reachBytes ≤ 140737488355328 := by decide
theorem Member.smallS {m : Member} (h : m.small) : m.subs.length * 16 ≤ 140737488355328 ∧ m.own.length * 32 ≤ 140737488355328 := by
  obtain ⟨_, _, ⟨h1, _⟩, ⟨h2, _⟩, _⟩ := h
  rw [bytes9] at h1
  rw [bytes63] at h2
  exact ⟨Nat.le_trans h1 reach47, Nat.le_trans h2 reach47⟩
theorem Group.smallG {g : Group} (h : g.small) : SmallG g := by
  obtain ⟨_, _, _, h1, h2⟩ := h
  rw [bytes28] at h1
  exact ⟨Nat.le_trans h1 reach47, fun m hm => Member.smallS (h2 m hm)⟩
attribute [local irreducible] RG CG EG WA Loc Det Alc CT Exit.then Exit.inBlock Code.wp bodyPost
end Go.Wm
-- cut by zcut
namespace Go.Wm
open Go.RowKit Go.Proofs
def roundW (g : Group) : Group := { g with gen := IntKind.i64.wrap (g.gen + 1), l := g.l.map unjoin }
def lessW (g : Group) (f : Member → Bool) (e : Int) : Group × Int :=
  if (decide ((g.l.filter fun m => !f m).length < g.l.length) && (decide (0 < (g.l.filter fun m => !f m).length) && (g.state == 2))) = true
  then toldG (roundW { g with l := g.l.filter fun m => !f m }) (wantE e (decide (g.gen < 1048576)) 2)
  else toldG { g with l := g.l.filter fun m => !f m } e
section
variable {P : Program} {o : Oper} {e : Env} {k : PH}
end
attribute [local irreducible] RG CG EG WA Loc Det Alc CT Exit.then Exit.inBlock Code.wp bodyPost
end Go.Wm
namespace Go.Wm
open Go.RowKit Go.Proofs
theorem KeepAt0.add {N : Nat} {KK k : PH} {bk b : Nat} {v : Value} {g : Group} {e : Int} {o : Obj} (h : KeepAt0 N KK k bk v g e) (hb : k b = some o) (hn : ¬ b = bk) (hv : v.ownBlock ≠ some b) : KeepAt0 N (upd KK b o) k bk v g e := by
  have hKK : Le KK (upd KK b o) := fun c ob hc => by
    by_cases e : c = b
    · subst e
      have := h.le _ _ hc
      rw [hb] at this
      rw [upd_same]; exact this
    · rw [upd_other e]; exact hc
  obtain ⟨css, u1, u2⟩ := h.row
  refine ⟨h.at', h.nb, upd_le h.le hb, (upd_other fun e => hn e.symm).trans h.kb, fun gg hgg => ?_, css, u1.le hKK, u2⟩
  rw [upd_other (fun e => hv (by rw [← e]; exact hgg))]
  exact h.ap gg hgg
def lateW (now most : Int) (m : Member) : Bool := decide (IntKind.i64.wrap (m.beat + most) < now)
attribute [local irreducible] RG CG EG WA Loc Det Alc CT Exit.then Exit.inBlock Code.wp bodyPost
end Go.Wm
namespace Go.Wm
open Go.RowKit Go.Proofs
attribute [local irreducible] RG CG EG WA Loc Det Alc CT Exit.then Exit.inBlock Code.wp bodyPost
set_option maxHeartbeats 4000000 in
theorem groupSyncs_walk {k : PH} {g : Group} {cg : List Value} (hg : tGroup.rep k cg g) (hsml : g.small) {id : ByteArray} (hid : id.size ≤ maxLen) {gen : Int} (hgen : I64 gen) {now : Int} (hnow : I64 now) {ta : Option Addr} {tc : Nat} {tps : List Tp} (ht : Sl tTp k ta tc tps) {p : Prop} (hp : p) : CT Tryz.prog 3 #[.agg cg.toArray, .string id, .int .i64 gen, .int .i64 now, .slice ta tps.length tc] k (fun _ v => v = .bool true) := by
  obtain ⟨a, c, rfl, hl, hok⟩ := hg
  have hsm := Group.smallG hsml
  unfold maxLen at hid
  refine ct_of_body (l := [_, _, _, _, _]) Tryz.func3 rfl Tryz.ntmps3 (by simp) (fun _ _ _ _ h => h) fun F hF0 hFm => ?_
  have b1 := hl.cap; have b2 := hl.max; unfold maxLen at b2
  have b3 := ht.cap; have b4 := ht.max; unfold maxLen at b4
  repeat (first | refine cg_seq ?_ | refine cg_region ?_)
  refine rb rfl rfl rfl rfl (a_box rfl rfl) ?_; intro b5 k5 hb5 hN5 hle5 hk5
  have hl := hl.le hle5
  have ht := ht.le hle5
  have c5 := cells_at (vs := g.cs a c) hk5 rfl
  repeat (first | refine cg_seq ?_ | refine cg_region ?_ | refine rg_nil ?_ | refine eg_then ?_ | refine qsp ?_)
  refine rs rfl rfl (loc_call_is rfl rfl rfl rfl (live_ct)) ?_
  repeat (first | refine cg_seq ?_ | refine cg_region ?_ | refine rg_nil ?_ | refine eg_then ?_ | refine qsp ?_ | refine qsg ?_ | refine cg_cond_false rfl ?_ | refine cg_skip ?_)
  refine rs rfl rfl (loc_call_is rfl rfl rfl rfl (few_ct hl)) ?_
  cases q1 : fewG g
  · repeat (first | refine cg_seq ?_ | refine cg_region ?_ | refine rg_nil ?_ | refine eg_then ?_ | refine qsp ?_ | refine qso ?_ | refine cg_cond_true rfl ?_ | refine cg_ret ?_ | refine eg_then_ret ?_)
    exact eg_return rfl rfl rfl
  repeat (first | refine qsp ?_)
  refine rs rfl rfl (loc_det rfl (d_len_str rfl rfl)) ?_
  repeat (first | refine qsp ?_)
  cases q3 : decide ((100 : Int) < (id.size : Int))
  case true =>
    repeat (first | refine cg_seq ?_ | refine cg_region ?_ | refine rg_nil ?_ | refine eg_then ?_ | refine qsp ?_ | refine qso ?_ | refine cg_cond_true rfl ?_ | refine cg_ret ?_ | refine eg_then_ret ?_)
    exact eg_return rfl rfl rfl
  repeat (first | refine rg_nil ?_ | refine eg_then ?_ | refine qsp ?_ | refine qsn ?_)
  cases q4 : decide ((60 : Int) < (tps.length : Int))
  case true =>
    repeat (first | refine cg_seq ?_ | refine cg_region ?_ | refine rg_nil ?_ | refine eg_then ?_ | refine qsp ?_ | refine cg_cond_true rfl ?_ | refine cg_ret ?_ | refine eg_then_ret ?_)
    exact eg_return rfl rfl rfl
  have htl : tps.length ≤ 10000 := by have := of_decide_eq_false q4; omega
  repeat (first | refine cg_seq ?_ | refine cg_region ?_ | refine eg_then ?_ | refine qsp ?_ | refine qsg ?_ | refine cg_cond_false rfl ?_ | refine cg_skip ?_)
  refine rv rfl rfl rfl (loc_call rfl rfl rfl rfl SynV.mono (sync_ct hl hok hsm ht htl id gen now hnow)) ?_
  rintro kp6 hlp6 _ ⟨x6, own6, e6, a6, c6, ao6, co6, rfl, h6, o6, S6⟩
  repeat (first | refine qsp ?_)
  refine rb rfl rfl rfl rfl (a_alloc rfl) ?_; intro bb6 kq6 hbq6 hNq6 hlq6 hkq6
  refine rw1 (vs := x6.cs a6 c6) rfl rfl rfl rfl rfl rfl rfl hkq6 rfl (.inl hNq6) (by simp [Group.cs, Value.oneCell']) ?_
  intro kr6 htr6 hkr6
  have hlr6 := htr6 kp6 hlq6 hbq6
  have hlt6 := hlp6.trans hlr6
  have h6 := h6.le hlr6
  have o6 := o6.le hlr6
  have c5 := c5.le hlt6
  have hl := hl.le hlt6
  have ht := ht.le hlt6
  have d6 := cells_at (vs := x6.cs a6 c6) hkr6 rfl
  clear hkq6 htr6 hlq6 hlr6 hlt6 hlp6 hkr6
  repeat (first | refine cg_seq ?_ | refine cg_region ?_ | refine rg_nil ?_ | refine eg_then ?_ | refine qsp ?_ | refine qsg ?_)
  refine rv rfl rfl rfl (loc_call rfl rfl rfl rfl SynV.mono (refSync_ct hl hok hsm ht htl id gen now hnow)) ?_
  rintro kp7 hlp7 _ ⟨x7, own7, e7, a7, c7, ao7, co7, rfl, h7, o7, S7⟩
  repeat (first | refine qsp ?_)
  refine rb rfl rfl rfl rfl (a_alloc rfl) ?_; intro bb7 kq7 hbq7 hNq7 hlq7 hkq7
  refine rw1 (vs := x7.cs a7 c7) rfl rfl rfl rfl rfl rfl rfl hkq7 rfl (.inl hNq7) (by simp [Group.cs, Value.oneCell']) ?_
  intro kr7 htr7 hkr7
  have hlr7 := htr7 kp7 hlq7 hbq7
  have hlt7 := hlp7.trans hlr7
  have h7 := h7.le hlr7
  have o7 := o7.le hlr7
  have c5 := c5.le hlt7
  have hl := hl.le hlt7
  have ht := ht.le hlt7
  have h6 := h6.le hlt7
  have o6 := o6.le hlt7
  have d6 := d6.le hlt7
  have d7 := cells_at (vs := x7.cs a7 c7) hkr7 rfl
  clear hkq7 htr7 hlq7 hlr7 hlt7 hlp7 hkr7
  obtain ⟨rfl, rfl, rfl⟩ := S6.same S7
  repeat (first | refine cg_seq ?_ | refine cg_region ?_ | refine rg_nil ?_ | refine eg_then ?_ | refine qsp ?_ | refine qsg ?_)
  refine rv rfl rfl rfl (loc_call rfl rfl rfl rfl GrpV.mono (beat_ct hl hok hsm id gen now hnow)) ?_
  rintro kp8 hlp8 _ ⟨a8, c8, rfl, h8⟩
  repeat (first | refine qsp ?_)
  refine rb rfl rfl rfl rfl (a_alloc rfl) ?_; intro bb8 kq8 hbq8 hNq8 hlq8 hkq8
  refine rw1 (vs := (beatG g id gen now).1.cs a8 c8) rfl rfl rfl rfl rfl rfl rfl hkq8 rfl (.inl hNq8) (by simp [Group.cs, Value.oneCell']) ?_
  intro kr8 htr8 hkr8
  have hlr8 := htr8 kp8 hlq8 hbq8
  have hlt8 := hlp8.trans hlr8
  have h8 := h8.le hlr8
  have c5 := c5.le hlt8
  have hl := hl.le hlt8
  have ht := ht.le hlt8
  have h6 := h6.le hlt8
  have o6 := o6.le hlt8
  have d6 := d6.le hlt8
  have h7 := h7.le hlt8
  have o7 := o7.le hlt8
  have d7 := d7.le hlt8
  have d8 := cells_at (vs := (beatG g id gen now).1.cs a8 c8) hkr8 rfl
  clear hkq8 htr8 hlq8 hlr8 hlt8 hlp8 hkr8
  repeat (first | refine cg_seq ?_ | refine cg_region ?_ | refine rg_nil ?_ | refine eg_then ?_ | refine qsp ?_ | refine qsg ?_)
  refine rv rfl rfl rfl (loc_call rfl rfl rfl rfl GrpV.mono (refBeat_ct hl hok hsm id gen now hnow)) ?_
  rintro kp9 hlp9 _ ⟨a9, c9, rfl, h9⟩
  repeat (first | refine qsp ?_)
  refine rb rfl rfl rfl rfl (a_alloc rfl) ?_; intro bb9 kq9 hbq9 hNq9 hlq9 hkq9
  refine rw1 (vs := (beatG g id gen now).1.cs a9 c9) rfl rfl rfl rfl rfl rfl rfl hkq9 rfl (.inl hNq9) (by simp [Group.cs, Value.oneCell']) ?_
  intro kr9 htr9 hkr9
  have hlr9 := htr9 kp9 hlq9 hbq9
  have hlt9 := hlp9.trans hlr9
  have h9 := h9.le hlr9
  have c5 := c5.le hlt9
  have hl := hl.le hlt9
  have ht := ht.le hlt9
  have h6 := h6.le hlt9
  have o6 := o6.le hlt9
  have d6 := d6.le hlt9
  have h7 := h7.le hlt9
  have o7 := o7.le hlt9
  have d7 := d7.le hlt9
  have h8 := h8.le hlt9
  have d8 := d8.le hlt9
  have d9 := cells_at (vs := (beatG g id gen now).1.cs a9 c9) hkr9 rfl
  clear hkq9 htr9 hlq9 hlr9 hlt9 hlp9 hkr9
  have s1 := sameG_ct (g := x6) (g' := x6) h6 h7
  have s2 := sameG_ct (g := (beatG g id gen now).1) (g' := (beatG g id gen now).1) h8 h9
  have s3 := tps_ct o6 o7
  rw [show decide (x6 = x6) = true by simp] at s1
  rw [show decide ((beatG g id gen now).1 = (beatG g id gen now).1) = true by simp] at s2
  rw [show decide (own6 = own6) = true by simp] at s3
  repeat (first | refine cg_seq ?_ | refine cg_region ?_ | refine rg_nil ?_ | refine eg_then ?_ | refine qsp ?_ | refine qsg ?_)
  refine rs rfl rfl (loc_call_is rfl rfl rfl rfl (s1)) ?_
  repeat (first | refine qsp ?_ | refine qsg ?_)
  refine rs rfl rfl (loc_call_is rfl rfl rfl rfl (s2)) ?_
  repeat (first | refine qsp ?_)
  refine rs rfl rfl (loc_call_is rfl rfl rfl rfl (s3)) ?_
  repeat (first | refine cg_seq ?_ | refine cg_region ?_ | refine rg_nil ?_ | refine eg_then ?_ | refine qsp ?_)
  rw [show (e6 == e6) = true by simp]
  repeat (first | refine rg_nil ?_ | refine eg_then ?_ | refine qsp ?_ | refine cg_ret ?_)
  rw [show ((beatG g id gen now).2 == (beatG g id gen now).2) = true by simp]
  skip
  exact eg_return rfl rfl rfl
end Go.Wm
namespace Go.Wm
open Go.RowKit Go.Proofs
theorem mayEnter_ok : Tryz.prog.mayEnter = true := by kernel_rfl
end Go.Wm
namespace Go.Wm
open Go.RowKit Go.Proofs
theorem liftsFinal_nil : Tryz.prog.liftsFinal = false := by kernel_rfl
end Go.Wm
namespace Go.Wm
open Go.RowKit Go.Proofs
theorem make_eq : Tryz.prog.make = some (({ program := "", sum := "", func := "", spec := "" } : OpenClaim).make) := by kernel_rfl
end Go.Wm

/-
  The document's without. Conditions: that what is handed in reads as data.
-/
import Derived.Test.YtnijbmmghpbmgaaR5
set_option linter.all false
namespace Go.Wm
open Go.RowKit Go.Proofs
/-- What a group that is told alone is. -/
def GrpA (q : Group) (k : PH) (v : Value) : Prop := ∃ a c, v = .agg (q.cs a c).toArray ∧ Sl tMember k a c q.l
theorem GrpA.mono {q : Group} : ∀ k k' v, Le k k' → GrpA q k v → GrpA q k' v := fun k k' v hle ⟨a, c, h1, h2⟩ => ⟨a, c, h1, h2.le hle⟩
/-- A group anew: its members lie in a row of the call's own. -/
def GrpN (g : Group) (k : PH) (N : Nat) (k' : PH) (v : Value) : Prop := ∃ a c KK css, v = .agg (g.cs a c).toArray ∧ Le k KK ∧ Le KK k' ∧ Apart KK (.slice a g.l.length c) ∧ Pieces tMember KK css g.l ∧ Row N k' 28 6 (.slice a g.l.length c) g.l.length css.flatten
theorem GrpN.mono {g : Group} {k : PH} : ∀ N k1 k2 v, Le k1 k2 → GrpN g k N k1 v → GrpN g k N k2 v := fun N k1 k2 v hle ⟨a, c, KK, css, h1, h2, h3, h4, h5, h6⟩ => ⟨a, c, KK, css, h1, h2, h3.trans hle, h4, h5, h6.le hle⟩
theorem ct_of_new {f : FuncId} {args : Array Value} {k : PH} {g : Group} (h : CTN Try.prog f args k (GrpN g k)) : CT Try.prog f args k (GrpA g) := by
  intro w k1 hle hs
  refine (h w k1 hle hs).mono ?_
  rintro e w' ⟨v, k', h1, h2, h3, h4, a, c, KK, css, h5, h6, h7, h8, h9, h10⟩
  exact ⟨v, k', h1, h2, h3, h4, a, c, h5, GrpR.sl h9 h10 h7⟩
def refRoundG (g : Group) : Group × Int := if 1048576 ≤ g.gen then (noG, 2) else (roundG g, 0)
theorem metOf_succ {xs ys : List Tp} {i : Nat} (hi : i < xs.length) : metOf (xs.take (i + 1)) ys = metOf (xs.take i) ys ++ if xs[i] ∈ ys then [xs[i]] else [] := by
  unfold metOf
  rw [List.take_succ_eq_append_getElem hi, List.filter_append]
  congr 1
  by_cases h : xs[i] ∈ ys <;> simp [h]
attribute [local irreducible] RG CG EG WA Loc Det Alc CT Exit.then Exit.inBlock Code.wp bodyPost
set_option maxHeartbeats 400000 in
theorem static_ct {k : PH} {g : Group} {a : Option Addr} {c : Nat} (hl : Sl tMember k a c g.l) (s : ByteArray) : CT Try.prog 54 #[.agg (g.cs a c).toArray, .string s] k (fun _ v => v = .int .i64 (idxF g.l (sameStat s))) := by
  refine ct_of_body (l := [_, _]) Try.func54 rfl Try.ntmps54 (by simp) (fun _ _ _ _ h => h) fun F hF0 hFm => ?_
  have b1 := hl.cap; have b2 := hl.max; unfold maxLen at b2
  repeat (first | refine cg_seq ?_ | refine cg_region ?_)
  refine rb rfl rfl rfl rfl (a_box rfl rfl) ?_; intro b3 k3 hb3 hN3 hle3 hk3
  obtain ⟨p0, p1, p2, p3⟩ := Group.parts (cells_at (vs := g.cs a c) hk3 rfl)
  repeat (first | refine cg_seq ?_ | refine cg_region ?_ | refine rg_nil ?_ | refine eg_then ?_ | refine qsp ?_ | refine cg_block ?_)
  refine cg_loop (fun (i : Nat) e k' => k' = k3 ∧ i ≤ g.l.length ∧ (∀ x ∈ g.l.take i, sameStat s x = false) ∧ e = [(1, .is (.string s)), (2, .is (.pointer (some ⟨b3, 0, none⟩))), (5, .is (.int .i64 (i : Int)))])
    (fun i => g.l.length - i) 0 ⟨rfl, Nat.zero_le _, by simp, rfl⟩ ⟨rfl, rfl, rfl, trivial⟩ ?_
  rintro i e k1 ⟨rfl, hi, hno, rfl⟩
  repeat (first | refine cg_seq ?_ | refine cg_region ?_ | refine rg_nil ?_ | refine eg_then ?_ | refine qsp ?_ | refine qsn ?_ | refine qsl ?_ | refine qsf ?_)
  refine cg_cond rfl (fun h => ?_) (fun h => ?_)
  rotate_left
  · repeat (first | refine cg_seq ?_ | refine cg_region ?_ | refine rg_nil ?_ | refine eg_then ?_ | refine qsp ?_ | refine cg_ret ?_ | refine cg_exit ?_ | refine eg_then_exit ?_ | refine eg_in_exit ?_)
    refine eg_return rfl rfl ?_
    have : i = g.l.length := by simp at h; omega
    rw [this, List.take_length] at hno
    rw [idxF_no hno]
  have hlt : i < g.l.length := by simpa using h
  obtain ⟨bx, ox, cx, ea, ⟨a0, c0, a1, c1, rfl, _, _⟩, hcx⟩ := hl.el i g.l[i] (List.getElem?_eq_getElem hlt)
  subst ea
  obtain ⟨q0, q1, q2, q3, q4, q5⟩ := Member.parts (hcx.le hle3)
  have again : sameStat s g.l[i] = false → ∀ x ∈ g.l.take (i + 1), sameStat s x = false := fun h x hx => by
    rw [List.take_succ_eq_append_getElem hlt] at hx
    rcases List.mem_append.1 hx with hx | hx
    · exact hno x hx
    · simp at hx; rw [hx]; exact h
  repeat (first | refine cg_seq ?_ | refine cg_region ?_ | refine eg_then ?_ | refine qsp ?_ | refine cg_skip ?_ | refine cg_block ?_)
  cases z1 : decide (s = ⟨#[]⟩)
  rotate_left
  · repeat (first | refine cg_region ?_ | refine rg_nil ?_ | refine eg_then ?_ | refine qsp ?_ | refine qsa ?_ | refine qso ?_ | refine cg_cond_false rfl ?_ | refine cg_skip ?_ | refine eg_in_normal ?_)
    refine eg_again (i + 1) _ ⟨rfl, hlt, again (by unfold sameStat; rw [z1]; rfl), rfl⟩ (by omega) ⟨rfl, rfl, rfl, trivial⟩
  repeat (first | refine rg_nil ?_ | refine eg_then ?_ | refine qsp ?_ | refine qsi ?_ | refine qsl ?_ | refine qsf ?_)
  cases z2 : decide (g.l[i].static = s)
  · repeat (first | refine cg_region ?_ | refine rg_nil ?_ | refine eg_then ?_ | refine qsp ?_ | refine qsa ?_ | refine cg_cond_false rfl ?_ | refine cg_skip ?_ | refine eg_in_normal ?_)
    refine eg_again (i + 1) _ ⟨rfl, hlt, again (by unfold sameStat; rw [z1, z2]; rfl), rfl⟩ (by omega) ⟨rfl, rfl, rfl, trivial⟩
  · repeat (first | refine cg_seq ?_ | refine cg_region ?_ | refine rg_nil ?_ | refine eg_then ?_ | refine qsp ?_ | refine cg_cond_true rfl ?_ | refine cg_ret ?_ | refine eg_then_ret ?_ | refine eg_in_ret ?_)
    refine eg_return rfl rfl ?_
    rw [idxF_at hlt (by unfold sameStat; rw [z1, z2]; rfl) hno]
set_option maxHeartbeats 1000000 in
theorem met_ct {k : PH} {a b : Option Addr} {ca cb : Nat} {xs ys : List Tp} (hx : Sl tTp k a ca xs) (hy : Sl tTp k b cb ys) (hb : xs.length * 32 ≤ 140737488355328) :
    CT Try.prog 55 #[.slice a xs.length ca, .slice b ys.length cb] k (fun k' v => ∃ a' c', v = .slice a' (metOf xs ys).length c' ∧ Sl tTp k' a' c' (metOf xs ys)) := by
  refine ct_of_body (l := [_, _]) Try.func55 rfl Try.ntmps55 (by simp) (fun k k' v hle ⟨a, c, h1, h2⟩ => ⟨a, c, h1, h2.le hle⟩) fun F hF0 hFm => ?_
  have b1 := hx.cap; have b2 := hx.max; unfold maxLen at b2
  have hml : ∀ i, (metOf (xs.take i) ys).length ≤ i := fun i => Nat.le_trans (List.length_filter_le _ _) (by rw [List.length_take]; omega)
  repeat (first | refine cg_seq ?_ | refine cg_region ?_ | refine rg_nil ?_ | refine eg_then ?_ | refine qsp ?_ | refine cg_block ?_)
  refine cg_loop (fun (i : Nat) e k' => ∃ v, Le k k' ∧ i ≤ xs.length ∧ Row F.w0.heap.size k' 63 3 v (metOf (xs.take i) ys).length ((metOf (xs.take i) ys).flatMap Tp.vs) ∧ Apart k v ∧ e = [(0, .is (.slice a xs.length ca)), (1, .is (.slice b ys.length cb)), (5, .is v), (6, .is (.int .i64 (i : Int)))])
    (fun i => xs.length - i) 0 ⟨.slice none 0 0, Le.refl _, Nat.zero_le _, row_nil _ _ _ _, apart_nil _ _ _, rfl⟩ ⟨rfl, rfl, rfl, rfl, trivial⟩ ?_
  rintro i e k1 ⟨v, hle1, hi, hrow, hap, rfl⟩
  repeat (first | refine cg_seq ?_ | refine cg_region ?_ | refine rg_nil ?_ | refine eg_then ?_ | refine qsp ?_ | refine qsn ?_)
  refine cg_cond rfl (fun h => ?_) (fun h => ?_)
  rotate_left
  · have : i = xs.length := by simp at h; omega
    rw [this, List.take_length] at hrow
    have hsok : ∀ t ∈ metOf xs ys, t.ok := fun t ht => sl_ok_tp hx t (List.mem_filter.1 ht).1
    repeat (first | refine cg_seq ?_ | refine cg_region ?_ | refine rg_nil ?_ | refine eg_then ?_ | refine qsp ?_ | refine cg_ret ?_ | refine cg_exit ?_ | refine eg_then_exit ?_ | refine eg_in_exit ?_)
    refine eg_return rfl rfl ?_
    rcases hrow.own with ⟨e0, e1, _⟩ | ⟨g, cap, cur, e0, _⟩
    · have e2 : v = .slice none (metOf xs ys).length 0 := by rw [e1, e0]
      subst e2
      exact ⟨_, _, rfl, row_sl_tp hrow hsok⟩
    · subst e0
      exact ⟨_, _, rfl, row_sl_tp hrow hsok⟩
  have hlt : i < xs.length := by simpa using h
  have hms := metOf_succ (ys := ys) hlt
  obtain ⟨bx, ox, cx, ea, ⟨rfl, hok⟩, hcx⟩ := (hx.le hle1).el i xs[i] (List.getElem?_eq_getElem hlt)
  subst ea
  have hh := has_ct (hy.le hle1) xs[i]
  repeat (first | refine cg_seq ?_ | refine cg_region ?_ | refine eg_then ?_ | refine qsp ?_ | refine qsi ?_ | refine qsg ?_ | refine cg_skip ?_ | refine cg_block ?_)
  refine rs rfl rfl (loc_call_is rfl rfl rfl rfl (hh)) ?_
  cases z1 : decide (xs[i] ∈ ys)
  · rw [if_neg (of_decide_eq_false z1), List.append_nil] at hms
    repeat (first | refine cg_region ?_ | refine rg_nil ?_ | refine eg_then ?_ | refine qsp ?_ | refine qsa ?_ | refine cg_cond_false rfl ?_ | refine cg_skip ?_ | refine eg_in_normal ?_)
    refine eg_again (i + 1) _ ⟨v, hle1, hlt, by rw [hms]; exact hrow, hap, rfl⟩ (by omega) ⟨rfl, rfl, rfl, rfl, trivial⟩
  rw [if_pos (of_decide_eq_true z1)] at hms
  have hm1 := hml i
  repeat (first | refine cg_region ?_ | refine rg_nil ?_ | refine eg_then ?_ | refine qsp ?_ | refine qsi ?_ | refine qsg ?_ | refine cg_cond_true rfl ?_)
  refine rb rfl rfl rfl rfl (a_slice (cells := xs[i].vs) rfl rfl rfl rfl (by kernel_rfl) rfl) ?_; intro b7 k7 hb7 hN7 hle7 hk7
  have c7 := cells_at (vs := xs[i].vs) hk7 rfl
  refine rap rfl rfl rfl rfl rfl rfl rfl (hrow.le hle7) c7 rfl (by simp [Tp.vs, Value.oneCell']) rfl rfl (by unfold maxLen; omega) (by omega) ?_
  intro v8 k8 hrow8 ht8
  obtain ⟨hle8, hap8⟩ := ht8 k (hle1.trans hle7) hap
  repeat (first | refine cg_region ?_ | refine rg_nil ?_ | refine eg_then ?_ | refine qsp ?_ | refine qsa ?_ | refine eg_in_normal ?_)
  refine eg_again (i + 1) _ ⟨v8, hle8, hlt, by rw [hms]; simpa using hrow8, hap8, rfl⟩ (by omega) ⟨rfl, rfl, rfl, rfl, trivial⟩
set_option maxHeartbeats 400000 in
theorem settled_ct {k : PH} {g : Group} {a : Option Addr} {c : Nat} (hl : Sl tMember k a c g.l) : CT Try.prog 59 #[.agg (g.cs a c).toArray] k (GrpA { g with state := stateG g.l }) := by
  refine ct_of_body (l := [_]) Try.func59 rfl Try.ntmps59 (by simp) GrpA.mono fun F hF0 hFm => ?_
  repeat (first | refine cg_seq ?_ | refine cg_region ?_)
  refine rb rfl rfl rfl rfl (a_box rfl rfl) ?_; intro b1 k1 hb1 hN1 hle1 hk1
  refine rb rfl rfl rfl rfl (a_alloc rfl) ?_; intro b2 k2 hb2 hN2 hle2 hk2
  have hl0 := hl
  have hl := hl.le (hle1.trans hle2)
  have n2 : b1 ≠ b2 := fun e => by rw [e, hb2] at hk1; cases hk1
  have hk1 := hle2 _ _ hk1
  obtain ⟨p0, p1, p2, p3⟩ := Group.parts (cells_at (vs := g.cs a c) hk1 rfl)
  repeat (first | refine cg_seq ?_ | refine cg_region ?_ | refine rg_nil ?_ | refine eg_then ?_ | refine qsl ?_ | refine qsf ?_)
  refine rs rfl rfl (loc_call_is rfl rfl rfl rfl (refState_ct hl)) ?_
  repeat (first | refine qsf ?_)
  refine rw0 rfl rfl rfl rfl rfl rfl rfl rfl hk1 (by show _ < 4; omega) (.inl hN1) ?_; intro k3 ht3 hk3
  have hk3 : k3 b1 = some (.cells (({ g with state := stateG g.l } : Group).cs a c).toArray 24 (0, 0)) := hk3
  have hle3 : Le k k3 := ht3 k (hle1.trans hle2) hb1
  have c3 := cells_at (vs := ({ g with state := stateG g.l } : Group).cs a c) hk3 rfl
  have r3 := turn1_get ht3 (Ne.symm n2) hk2
  repeat (first | refine cg_seq ?_ | refine cg_region ?_ | refine rg_nil ?_ | refine eg_then ?_ | refine qsg ?_)
  refine rw1 (vs := ({ g with state := stateG g.l } : Group).cs a c) rfl rfl rfl rfl rfl rfl rfl r3 rfl (.inl hN2) (by simp [Group.cs, Value.oneCell']) ?_
  intro k4 ht4 hk4
  repeat (first | refine rg_nil ?_ | refine eg_then ?_ | refine cg_ret ?_)
  exact eg_returnC rfl rfl rfl (cells_at (vs := ({ g with state := stateG g.l } : Group).cs a c) hk4 rfl) rfl ⟨a, c, rfl, hl0.le (ht4 k hle3 (by
    cases hc : k b2 with
    | none => rfl
    | some ob => have := (hle1 _ _ hc); rw [hb2] at this; cases this))⟩
end Go.Wm
namespace Go.Wm
open Go.RowKit Go.Proofs
def gV (g : Group) (v : Value) : List Value := [.string g.name, .int .i64 g.gen, .int .i64 g.state, v]
theorem apart_new {k : PH} {b m c : Nat} (hb : k b = none) : Apart k (.slice (some ⟨b, 0, none⟩) m c) := fun g hg => by
  have : b = g := by simpa [Value.ownBlock] using hg
  rw [← this]; exact hb
theorem row_sl {et sz : Nat} {N : Nat} {k : PH} {v : Value} {m : Nat} {xs : List Value} (h : Row N k et sz v m xs) : ∃ a c, v = .slice a m c := by
  rcases h.own with ⟨e0, e1, _⟩ | ⟨g, cap, cur, e0, _⟩
  · exact ⟨_, _, by rw [e0, e1]⟩
  · exact ⟨_, _, e0⟩
attribute [local irreducible] RG CG EG WA Loc Det Alc CT Exit.then Exit.inBlock Code.wp bodyPost
set_option maxHeartbeats 4000000 in
theorem copied_ctn {k : PH} {g : Group} {a : Option Addr} {c : Nat} (hl : Sl tMember k a c g.l) (hsm : SmallG g) : CTN Try.prog 57 #[.agg (g.cs a c).toArray] k (GrpN g k) := by
  refine ctn_of_body (l := [_]) Try.func57 rfl Try.ntmps57 (by simp) GrpN.mono fun F hF0 hFm => ?_
  have b1 := hl.cap; have b2 := hl.max; unfold maxLen at b2
  repeat (first | refine cg_seq ?_ | refine cg_region ?_)
  refine rb rfl rfl rfl rfl (a_box rfl rfl) ?_; intro b1 k1 hb1 hN1 hle1 hk1
  refine rb rfl rfl rfl rfl (a_alloc rfl) ?_; intro b2 k2 hb2 hN2 hle2 hk2
  have d1 := (cells_at (vs := g.cs a c) hk1 rfl).le hle2
  repeat (first | refine cg_seq ?_ | refine cg_region ?_ | refine rg_nil ?_ | refine eg_then ?_ | refine qsg ?_)
  refine rb rfl rfl rfl rfl (a_alloc rfl) ?_; intro b3 k3 hb3 hN3 hle3 hk3
  refine rw1 (vs := g.cs a c) rfl rfl rfl rfl rfl rfl rfl hk3 rfl (.inl hN3) (by simp [Group.cs, Value.oneCell']) ?_
  intro k4 ht4 hk4
  have hle4 : Le k2 k4 := ht4 k2 hle3 hb3
  repeat (first | refine cg_seq ?_ | refine cg_region ?_ | refine rg_nil ?_ | refine eg_then ?_ | refine qsf ?_)
  refine rw0 rfl rfl rfl rfl rfl rfl rfl rfl hk4 (by show _ < 4; omega) (.inl hN3) ?_; intro k5 ht5 hk5
  have hle5 : Le k2 k5 := ht5 k2 hle4 hb3
  have hk5 : k5 b3 = some (.cells (gV g (.slice none 0 0)).toArray 24 (0, 0)) := hk5
  have hl1 := hl.le hle1
  have hk5b := hle5 _ _ hk2
  have n23 : b2 ≠ b3 := fun e => by rw [e, hb3] at hk2; cases hk2
  clear ht4 ht5 hk4 hk3 hle4
  obtain ⟨_, _, _, p3'⟩ := Group.parts (cells_at (vs := g.cs a c) hk1 rfl)
  clear d1
  repeat (first | refine cg_seq ?_ | refine cg_region ?_ | refine rg_nil ?_ | refine eg_then ?_ | refine qsp ?_ | refine cg_block ?_)
  refine cg_loop (fun (i : Nat) e k' => ∃ v KK css, Le k1 KK ∧ Le KK k' ∧ KK b2 = none ∧ KK b3 = none ∧ Apart KK v ∧ Pieces tMember KK css (g.l.take i) ∧ Row F.w0.heap.size k' 28 6 v (g.l.take i).length css.flatten ∧ k' b2 = some (.cells (noG.cs none 0).toArray 24 (0, 0)) ∧ k' b3 = some (.cells (gV g v).toArray 24 (0, 0)) ∧ i ≤ g.l.length ∧
      e = [(1, .is (.pointer (some ⟨b1, 0, none⟩))), (2, .is (.pointer (some ⟨b2, 0, none⟩))), (3, .is (.pointer (some ⟨b3, 0, none⟩))), (4, .is (.int .i64 (i : Int)))])
    (fun i => g.l.length - i) 0 ⟨.slice none 0 0, k1, [], Le.refl _, hle2.trans hle5, hb2, (by
      cases hc : k1 b3 with
      | none => rfl
      | some ob => have := hle2 _ _ hc; rw [hb3] at this; cases this), apart_nil _ _ _, Pieces.nil _ _, row_nil _ _ _ _, hk5b, hk5, Nat.zero_le _, rfl⟩ ⟨rfl, rfl, rfl, rfl, trivial⟩ ?_
  rintro i e k6 ⟨v, KK, css, hKK, hle6, hKc, hKb, hap, hpc, hrow, hk6b, hk6, hi, rfl⟩
  have hle16 : Le k1 k6 := hKK.trans hle6
  have p3 := p3'.le hle16
  repeat (first | refine cg_seq ?_ | refine cg_region ?_ | refine rg_nil ?_ | refine eg_then ?_ | refine qsp ?_ | refine qsn ?_ | refine qsl ?_ | refine qsf ?_)
  refine cg_cond rfl (fun h => ?_) (fun h => ?_)
  rotate_left
  · have hil : i = g.l.length := by have := of_decide_eq_false h; omega
    rw [hil, List.take_length] at hpc hrow
    obtain ⟨a', c', rfl⟩ := row_sl hrow
    have d3 := cells_at (vs := g.cs a' c') hk6 rfl
    clear p3
    repeat (first | refine cg_seq ?_ | refine cg_region ?_ | refine eg_then ?_ | refine qsg ?_ | refine cg_exit ?_ | refine eg_then_exit ?_ | refine eg_in_exit ?_)
    refine rw1 (vs := g.cs a' c') rfl rfl rfl rfl rfl rfl rfl hk6b rfl (.inl hN2) (by simp [Group.cs, Value.oneCell']) ?_
    intro k7 ht7 hk7
    repeat (first | refine rg_nil ?_ | refine eg_then ?_ | refine cg_ret ?_)
    exact eg_returnC rfl rfl rfl (cells_at (vs := g.cs a' c') hk7 rfl) rfl ⟨a', c', KK, css, rfl, hle1.trans hKK, ht7 KK hle6 hKc, hap, hpc, hrow.turnY ht7 hk6b (by decide)⟩
  have hlt : i < g.l.length := by have := of_decide_eq_true h; omega
  obtain ⟨bx, ox, cx, ea, ⟨a0, c0, a1, c1, rfl, ⟨hsub, hown⟩, hmok⟩, hcx⟩ := hl1.el i g.l[i] (List.getElem?_eq_getElem hlt)
  have hcx6 := hcx.le hle16
  have hsm' := hsm.2 g.l[i] (List.getElem_mem hlt)
  have htk := List.take_succ_eq_append_getElem hlt
  obtain ⟨m, hm⟩ : ∃ m, g.l[i] = m := ⟨_, rfl⟩
  rw [hm] at hcx6 hsub hown hmok hsm' htk
  subst ea
  repeat (first | refine cg_seq ?_ | refine cg_region ?_ | refine eg_then ?_ | refine qsp ?_ | refine qsi ?_ | refine qsl ?_ | refine qsg ?_ | refine qsf ?_ | refine cg_skip ?_ | refine cg_block ?_)
  refine rb rfl rfl rfl rfl (a_alloc rfl) ?_; intro b5 k7 hb7 hN7 hle7 hk7
  have hle67 : Le k6 k7 := hle7
  refine rw1 (vs := m.cs a0 c0 a1 c1) rfl rfl rfl rfl rfl rfl rfl hk7 rfl (.inl hN7) ?_ ?_
  · exact Member.one k1 _ m ⟨a0, c0, a1, c1, rfl, ⟨hsub, hown⟩, hmok⟩
  intro k8 ht8 hk8
  have hle68 : Le k6 k8 := ht8 k6 hle67 hb7
  clear hcx hcx6 hk7 ht8
  obtain ⟨_, _, q2, q3, _, _⟩ := Member.parts (cells_at (vs := m.cs a0 c0 a1 c1) hk8 rfl)
  repeat (first | refine cg_seq ?_ | refine cg_region ?_ | refine rg_nil ?_ | refine eg_then ?_)
  refine rb rfl rfl rfl rfl (a_empty rfl) ?_; intro be ke hbe hNe hlee hke
  have q2 := q2.le hlee
  repeat (first | refine qsl ?_ | refine qsf ?_)
  refine raps2 (T := tStr) (sz := 1) (m := 0) (olds := []) rfl rfl rfl rfl rfl rfl rfl rfl (row_empty hNe hke) hsub (hle16.trans (hle68.trans hlee)) ByteArray.one rfl rfl (by unfold maxLen; have := hsub.cap; have := hsub.max; unfold maxLen at this; omega) (by have := hsm'.1; omega) ?_
  intro u9 k9 css9 hp9 hr9 ht9
  obtain ⟨hle89, _⟩ := ht9 k8 hlee (apart_new hbe)
  have hcs9 := pieces_map (T := tStr) (f := strV) (fun _ _ _ h => h.1) hp9
  have hr9 : Row F.w0.heap.size k9 9 1 u9 m.subs.length (m.subs.flatMap strV) := by rw [hcs9] at hr9; simpa [List.flatMap_def] using hr9
  obtain ⟨au, cu, rfl⟩ := row_sl hr9
  have hk9 := hle89 _ _ hk8
  clear q2 ht9 hp9 hcs9 hlee hke hbe hNe
  repeat (first | refine qsf ?_)
  refine rw0 rfl rfl rfl rfl rfl rfl rfl rfl hk9 (by show _ < 6; omega) (.inl hN7) ?_; intro k10 ht10 hk10
  have hk10 : k10 b5 = some (.cells (m.cs au cu a1 c1).toArray 28 (0, 0)) := hk10
  have hle6x : Le k6 k10 := ht10 k6 (hle68.trans hle89) hb7
  have hr10 := hr9.turnY ht10 hk9 (by decide)
  clear hr9 hk9 ht10 q3 hle89 hle68 hk8
  obtain ⟨_, _, _, q3, _, _⟩ := Member.parts (cells_at (vs := m.cs au cu a1 c1) hk10 rfl)
  repeat (first | refine cg_seq ?_ | refine cg_region ?_ | refine rg_nil ?_ | refine eg_then ?_)
  refine rb rfl rfl rfl rfl (a_empty rfl) ?_; intro be ke hbe hNe hlee hke
  have q3 := q3.le hlee
  repeat (first | refine qsl ?_ | refine qsf ?_)
  refine raps2 (T := tTp) (sz := 3) (m := 0) (olds := []) rfl rfl rfl rfl rfl rfl rfl rfl (row_empty hNe hke) hown (hle16.trans (hle6x.trans hlee)) Tp.one rfl rfl (by unfold maxLen; have := hown.cap; have := hown.max; unfold maxLen at this; omega) (by have := hsm'.2; omega) ?_
  intro u11 k11 css11 hp11 hr11 ht11
  obtain ⟨hle11, _⟩ := ht11 k10 hlee (apart_new hbe)
  have hcs11 := pieces_map (T := tTp) (f := Tp.vs) (fun _ _ _ h => h.1) hp11
  have hr11 : Row F.w0.heap.size k11 63 3 u11 m.own.length (m.own.flatMap Tp.vs) := by rw [hcs11] at hr11; simpa [List.flatMap_def] using hr11
  obtain ⟨ao, co, rfl⟩ := row_sl hr11
  have hk11 := hle11 _ _ hk10
  have hr10 := hr10.le hle11
  clear q3 ht11 hp11 hcs11 hlee hke hbe hNe
  repeat (first | refine qsf ?_)
  refine rw0 rfl rfl rfl rfl rfl rfl rfl rfl hk11 (by show _ < 6; omega) (.inl hN7) ?_; intro k12 ht12 hk12
  have hk12 : k12 b5 = some (.cells (m.cs au cu ao co).toArray 28 (0, 0)) := hk12
  have hle6y : Le k6 k12 := ht12 k6 (hle6x.trans hle11) hb7
  have hur := hr10.turnY ht12 hk11 (by decide)
  have hwr := hr11.turnY ht12 hk11 (by decide)
  clear hr10 hr11 hk11 ht12 hle11 hle6x hk10
  have hrow12 := hrow.le hle6y
  have hk12b := hle6y _ _ hk6
  have hk12c := hle6y _ _ hk6b
  have hv3 := hrow12.owner1 hk12b (by decide)
  have hv2 := hrow12.owner1 hk12c (by decide)
  have hkeep : ∀ gg, gg ≠ b2 → gg ≠ b3 → v.ownBlock ≠ some gg → keepH (delB k12 b2) b3 v gg = k12 gg := fun gg h0 h1 h2 => by
    unfold keepH
    rw [delV_of h2]
    unfold delB
    rw [if_neg h1, if_neg h0]
  have hsu : Sl tStr (keepH (delB k12 b2) b3 v) au cu m.subs := row_sl_str (hur.at fun gg hg => hkeep gg (fun e => hur.owner1 hk12c (by decide) (by rw [← e]; exact hg)) (fun e => hur.owner1 hk12b (by decide) (by rw [← e]; exact hg)) (hur.two1 hrow12 (by decide) hg)) (sl_ok_str hsub)
  have hso : Sl tTp (keepH (delB k12 b2) b3 v) ao co m.own := row_sl_tp (hwr.at fun gg hg => hkeep gg (fun e => hwr.owner1 hk12c (by decide) (by rw [← e]; exact hg)) (fun e => hwr.owner1 hk12b (by decide) (by rw [← e]; exact hg)) (hwr.two1 hrow12 (by decide) hg)) (sl_ok_tp hown)
  have hrep : tMember.rep (keepH (delB k12 b2) b3 v) (m.cs au cu ao co) m := ⟨au, cu, ao, co, rfl, ⟨hsu, hso⟩, hmok⟩
  have hKH : Le KK (keepH (delB k12 b2) b3 v) := le_keepH (le_delB (hle6.trans hle6y) hKc) hKb hap
  have c6 := cells_at (vs := m.cs au cu ao co) hk12 rfl
  have ck := (cells_at (vs := gV g v) hk12b rfl).one (i := 3) rfl
  have hnb : g.l.length * 96 ≤ 140737488355328 := hsm.1
  have hti : (g.l.take i).length = i := by rw [List.length_take]; omega
  repeat (first | refine cg_region ?_ | refine rg_nil ?_ | refine eg_then ?_ | refine qsl ?_ | refine qsg ?_ | refine qsf ?_)
  refine rb rfl rfl rfl rfl (a_slice (cells := m.cs au cu ao co) rfl rfl rfl rfl (by kernel_rfl) rfl) ?_; intro b13 k13 hb13 hN13 hle13 hk13
  have c13 := cells_at (vs := m.cs au cu ao co) hk13 rfl
  refine rap rfl rfl rfl rfl rfl rfl rfl (hrow12.le hle13) c13 rfl (by simp [Member.cs, Value.oneCell']) rfl rfl (by unfold maxLen; omega) (by omega) ?_
  intro v14 k14 hrow14 ht14
  obtain ⟨hleA, hapA⟩ := ht14 (keepH (delB k12 b2) b3 v) ((keepH_le _ _ _).trans ((delB_le _ _).trans hle13)) (keepH_v _ _ _)
  obtain ⟨hleB, _⟩ := ht14 (delV k12 v) ((delV_le _ _).trans hle13) fun g hg => delV_own hg
  have hk14b := hleB _ _ ((delV_of hv3).trans hk12b)
  have hk14c := hleB _ _ ((delV_of hv2).trans hk12c)
  clear hleB ht14 c6 ck
  repeat (first | refine qsf ?_)
  refine rw0 rfl rfl rfl rfl rfl rfl hrow14.oneV1 rfl hk14b (by show _ < 4; omega) (.inl hN3) ?_; intro k15 ht15 hk15
  have hK2 : keepH (delB k12 b2) b3 v b2 = none := by
    cases hc : keepH (delB k12 b2) b3 v b2 with
    | none => rfl
    | some ob => have := keepH_le _ _ _ _ _ hc; rw [delB_own] at this; cases this
  repeat (first | refine cg_region ?_ | refine rg_nil ?_ | refine eg_then ?_ | refine qsp ?_ | refine qsa ?_ | refine eg_in_normal ?_)
  refine eg_again (i + 1) _ ⟨v14, keepH (delB k12 b2) b3 v, css ++ [m.cs au cu ao co], hKK.trans hKH, ht15 _ hleA (keepH_b _ _ _), hK2, keepH_b _ _ _, hapA, ?_, ?_, turn1_get ht15 ?_ hk14c, hk15, hlt, rfl⟩ (by omega) ⟨rfl, rfl, rfl, rfl, trivial⟩
  · rw [htk]; exact (hpc.le hKH).append (Pieces.one hrep)
  · rw [htk]; simpa using hrow14.turnY ht15 hk14b (by decide)
  · exact n23
end Go.Wm
namespace Go.Wm
open Go.RowKit Go.Proofs
attribute [local irreducible] RG CG EG WA Loc Det Alc CT Exit.then Exit.inBlock Code.wp bodyPost
set_option maxHeartbeats 1000000 in
theorem refRound_ct {k : PH} {g : Group} {a : Option Addr} {c : Nat} (hl : Sl tMember k a c g.l) (hsm : SmallG g) (hg : I64 g.gen) : CT Try.prog 58 #[.agg (g.cs a c).toArray] k (GrpV (refRoundG g)) := by
  refine ct_of_body (l := [_]) Try.func58 rfl Try.ntmps58 (by simp) GrpV.mono fun F hF0 hFm => ?_
  have b1 := hl.cap; have b2 := hl.max; unfold maxLen at b2
  unfold refRoundG I64 at *
  repeat (first | refine cg_seq ?_ | refine cg_region ?_)
  refine rb rfl rfl rfl rfl (a_box rfl rfl) ?_; intro b1 k1 hb1 hN1 hle1 hk1
  refine rb rfl rfl rfl rfl (a_alloc rfl) ?_; intro b2 k2 hb2 hN2 hle2 hk2
  have d1 := (cells_at (vs := g.cs a c) hk1 rfl).le hle2
  obtain ⟨_, p1, _, _⟩ := Group.parts (cells_at (vs := g.cs a c) hk1 rfl)
  have p1 := p1.le hle2
  repeat (first | refine cg_seq ?_ | refine cg_region ?_ | refine rg_nil ?_ | refine eg_then ?_ | refine qsp ?_ | refine qsl ?_ | refine qsf ?_)
  refine cg_cond rfl (fun h => ?_) (fun h => ?_)
  · rw [if_pos (by have := of_decide_eq_true h; omega)]
    repeat (first | refine cg_seq ?_ | refine cg_region ?_)
    refine rs rfl rfl (loc_det rfl (d_lit (cells := noG.cs none 0) rfl rfl rfl)) ?_
    refine rw1 (vs := noG.cs none 0) rfl rfl rfl rfl rfl rfl rfl hk2 rfl (.inl hN2) (by simp [Group.cs, Value.oneCell']) ?_
    intro k3 ht3 hk3
    repeat (first | refine rg_nil ?_ | refine eg_then ?_ | refine qsp ?_ | refine cg_ret ?_ | refine eg_then_ret ?_)
    exact eg_returnC2 rfl rfl rfl rfl (cells_at (vs := noG.cs none 0) hk3 rfl) rfl ⟨none, 0, rfl, sl_nilM _⟩
  have hgen : g.gen < 1048576 := by have := of_decide_eq_false h; omega
  rw [if_neg (by omega)]
  have hl1 := hl.le hle1
  repeat (first | refine cg_seq ?_ | refine cg_region ?_ | refine eg_then ?_ | refine qsg ?_ | refine cg_skip ?_)
  refine rvnh rfl rfl rfl rfl rfl rfl rfl hle2 (copied_ctn hl1 hsm) ?_
  rintro N1 kq k3 _ hN hf hle1q hsame hle3 hq3 ⟨a3, c3, KK, css0, rfl, hKK, hKq, hap, hpc0, hrow0⟩
  have hrow0 := (hrow0.N_le hN).le hq3
  have hK3 := hKq.trans hq3
  have kb2 : KK b2 = none := by
    cases hc : KK b2 with
    | none => rfl
    | some ob => have := hKq _ _ hc; rw [hsame _ _ hk2, hb2] at this; cases this
  have p1 := p1.le hle3
  clear d1
  skip
  refine rb rfl rfl rfl rfl (a_alloc rfl) ?_; intro b4 k4 hb4 hN4 hle4 hk4
  have kb4 : KK b4 = none := by
    cases hc : KK b4 with
    | none => rfl
    | some ob => have := hK3 _ _ hc; rw [hb4] at this; cases this
  refine rw1 (vs := g.cs a3 c3) rfl rfl rfl rfl rfl rfl rfl hk4 rfl (.inl hN4) (by simp [Group.cs, Value.oneCell']) ?_
  intro k5 ht5 hk5
  have hle35 : Le k3 k5 := ht5 k3 hle4 hb4
  have p1 := p1.le hle35
  repeat (first | refine cg_seq ?_ | refine cg_region ?_ | refine rg_nil ?_ | refine eg_then ?_ | refine qsa ?_ | refine qsl ?_ | refine qsf ?_)
  refine rw0 rfl rfl rfl rfl rfl rfl rfl rfl hk5 (by show _ < 4; omega) (.inl hN4) ?_; intro k6 ht6 hk6
  have hk6 : k6 b4 = some (.cells (gV { g with gen := g.gen + 1 } (.slice a3 g.l.length c3)).toArray 24 (0, 0)) := hk6
  have hle36 : Le k3 k6 := ht6 k3 hle35 hb4
  have hK6 := hK3.trans hle36
  have hrow6 := hrow0.le hle36
  have hk62 := hle36 _ _ (hle3 _ _ hk2)
  have n24 : b2 ≠ b4 := fun e => by have := hle3 _ _ hk2; rw [e, hb4] at this; cases this
  clear p1 ht5 ht6 hk5 hk4
  repeat (first | refine cg_seq ?_ | refine cg_region ?_ | refine rg_nil ?_ | refine eg_then ?_ | refine qsp ?_ | refine cg_block ?_)
  refine cg_loop (fun (i : Nat) e k' => ∃ css, Le KK k' ∧ Pieces tMember KK css (curU g.l i) ∧ Row F.w0.heap.size k' 28 6 (.slice a3 g.l.length c3) g.l.length css.flatten ∧ k' b4 = some (.cells (gV { g with gen := g.gen + 1 } (.slice a3 g.l.length c3)).toArray 24 (0, 0)) ∧ k' b2 = some (.cells (noG.cs none 0).toArray 24 (0, 0)) ∧ i ≤ g.l.length ∧ e = [(1, .is (.pointer (some ⟨b1, 0, none⟩))), (2, .is (.pointer (some ⟨b2, 0, none⟩))), (3, .is (.int .i64 0)), (4, .is (.pointer (some ⟨b4, 0, none⟩))), (5, .is (.int .i64 (i : Int)))])
    (fun i => g.l.length - i) 0 ⟨css0, hK6, by rw [curU_zero]; exact hpc0, hrow6, hk6, hk62, Nat.zero_le _, rfl⟩ ⟨rfl, rfl, rfl, rfl, rfl, trivial⟩ ?_
  rintro i e k7 ⟨css, hK7, u1, u2, hk7, hk72, hi, rfl⟩
  have c3' := (cells_at (vs := gV { g with gen := g.gen + 1 } (.slice a3 g.l.length c3)) hk7 rfl).one (i := 3) rfl
  repeat (first | refine cg_seq ?_ | refine cg_region ?_ | refine rg_nil ?_ | refine eg_then ?_ | refine qsp ?_ | refine qsn ?_ | refine qsl ?_ | refine qsf ?_)
  refine cg_cond rfl (fun h => ?_) (fun h => ?_)
  rotate_left
  · have hil : i = g.l.length := by have := of_decide_eq_false h; omega
    rw [hil, curU_end] at u1
    have hlm : (roundG g).l.length = g.l.length := List.length_map _
    have hcs7 : (roundG g).cs a3 c3 = gV { g with gen := g.gen + 1 } (.slice a3 g.l.length c3) := by unfold Group.cs gV; rw [hlm]; rfl
    have hk7' : k7 b4 = some (.cells ((roundG g).cs a3 c3).toArray 24 (0, 0)) := by rw [hcs7]; exact hk7
    have d7 := cells_at (vs := (roundG g).cs a3 c3) hk7' rfl
    clear c3'
    repeat (first | refine cg_seq ?_ | refine cg_region ?_ | refine eg_then ?_ | refine qsg ?_ | refine cg_exit ?_ | refine eg_then_exit ?_ | refine eg_in_exit ?_)
    refine rw1 (vs := (roundG g).cs a3 c3) rfl rfl rfl rfl rfl rfl rfl hk72 rfl (.inl hN2) (by simp [Group.cs, Value.oneCell']) ?_
    intro k8 ht8 hk8
    repeat (first | refine rg_nil ?_ | refine eg_then ?_ | refine qsp ?_ | refine cg_ret ?_)
    have hsl : Sl tMember k8 a3 c3 (g.l.map unjoin) := by
      have u2' : Row F.w0.heap.size k7 28 6 (.slice a3 (g.l.map unjoin).length c3) (g.l.map unjoin).length css.flatten := by rw [List.length_map]; exact u2
      exact GrpR.sl u1 (u2'.turnY ht8 hk72 (by decide)) (ht8 KK hK7 kb2)
    exact eg_returnC2 rfl rfl rfl rfl (cells_at (vs := (roundG g).cs a3 c3) hk8 rfl) rfl ⟨a3, c3, rfl, hsl⟩
  have hlt' : i < g.l.length := by have := of_decide_eq_true h; omega
  have hcl : css.length = g.l.length := by rw [u1.1, curU_len]
  have hcs := List.getElem?_eq_getElem (show i < css.length by omega)
  obtain ⟨a0, c0, a1, c1, hce, hsl4, hmok⟩ := u1.2 i _ _ hcs (curU_at hlt')
  rw [hce] at hcs
  obtain ⟨gb, cap, cur, hve, hgN, hkg, hglt, hcg, hset⟩ := Row.cell (i := i) (j := 4) (cs := g.l[i].cs a0 c0 a1 c1) u2 (fun y hy => u1.len y hy) hcs (by omega)
  cases hve
  have hne : gb ≠ b4 := fun e => by rw [e, hk7] at hkg; simp at hkg
  have hne2 : gb ≠ b2 := fun e => by rw [e, hk72] at hkg; simp at hkg
  have hKg : KK gb = none := hap gb rfl
  repeat (first | refine cg_seq ?_ | refine cg_region ?_ | refine eg_then ?_ | refine qsp ?_ | refine qsi ?_ | refine qsl ?_ | refine qsf ?_ | refine cg_skip ?_ | refine cg_block ?_)
  refine rw0 rfl rfl rfl rfl rfl rfl rfl rfl hkg (show 0 + i * 6 + 4 < cur.size by omega) (.inl hgN) ?_; intro k8 ht8 hk8
  have hrow8 := hset k8 (.bool false) ht8 (by rw [hk8]; simp)
  repeat (first | refine cg_region ?_ | refine rg_nil ?_ | refine eg_then ?_ | refine qsp ?_ | refine qsa ?_ | refine eg_in_normal ?_)
  refine eg_again (i + 1) _ ⟨css.set i ((g.l[i].cs a0 c0 a1 c1).set 4 (.bool false)), ht8 KK hK7 hKg, ?_, hrow8, turn1_get ht8 (Ne.symm hne) hk7, turn1_get ht8 (Ne.symm hne2) hk72, hlt', rfl⟩ (by omega) ⟨rfl, rfl, rfl, rfl, rfl, trivial⟩
  rw [curU_succ hlt']
  exact u1.set i ⟨a0, c0, a1, c1, rfl, hsl4, hmok⟩
end Go.Wm
namespace Go.Wm
open Go.RowKit Go.Proofs
/-- A list but for the n-th; none is left out if there is none. -/
def delN (n : Int) (l : List Member) : List Member := match n with | .ofNat j => l.eraseIdx j | .negSucc _ => l
theorem delN_len (n : Int) (l : List Member) : (delN n l).length ≤ l.length := by
  unfold delN
  split
  · exact List.length_eraseIdx_le _ _
  · exact Nat.le_refl _
theorem delN_nil (n : Int) : delN n [] = [] := List.length_eq_zero_iff.1 (Nat.le_zero.1 (delN_len n []))
theorem delN_keep {n : Int} {l : List Member} {i : Nat} (hi : i < l.length) (h : (i : Int) ≠ n) : delN n (l.take (i + 1)) = delN n (l.take i) ++ [l[i]] := by
  rw [List.take_succ_eq_append_getElem hi]
  have ht : (l.take i).length = i := by rw [List.length_take]; omega
  unfold delN
  split
  · rename_i j
    have hji : j ≠ i := fun e => h (by rw [e]; rfl)
    by_cases hlt : j < i
    · rw [List.eraseIdx_append_of_lt_length (by omega)]
    · rw [List.eraseIdx_of_length_le (by simp; omega), List.eraseIdx_of_length_le (by omega)]
  · rfl
theorem delN_at {n : Int} {l : List Member} {i : Nat} (hi : i < l.length) (h : (i : Int) = n) : delN n (l.take (i + 1)) = delN n (l.take i) := by
  rw [List.take_succ_eq_append_getElem hi, ← h]
  have ht : (l.take i).length = i := by rw [List.length_take]; omega
  show (l.take i ++ [l[i]]).eraseIdx i = (l.take i).eraseIdx i
  rw [List.eraseIdx_of_length_le (l := l.take i) (by omega), List.eraseIdx_append_of_length_le (by omega), ht]
  simp
theorem delN_del {l : List Member} {i : Nat} (hi : i < l.length) : delN (i : Int) l = delM i l := by
  show l.eraseIdx i = _
  unfold delM
  rw [List.eraseIdx_eq_take_drop_succ]
attribute [local irreducible] RG CG EG WA Loc Det Alc CT Exit.then Exit.inBlock Code.wp bodyPost
set_option maxHeartbeats 2000000 in
theorem without_ct {k : PH} {g : Group} {a : Option Addr} {c : Nat} (hl : Sl tMember k a c g.l) (hnb : g.l.length * 96 ≤ 140737488355328) (n : Int) : CT Try.prog 61 #[.agg (g.cs a c).toArray, .int .i64 n] k (GrpA { g with l := delN n g.l }) := by
  refine ct_of_body (l := [_, _]) Try.func61 rfl Try.ntmps61 (by simp) GrpA.mono fun F hF0 hFm => ?_
  have b1 := hl.cap; have b2 := hl.max; unfold maxLen at b2
  repeat (first | refine cg_seq ?_ | refine cg_region ?_)
  refine rb rfl rfl rfl rfl (a_box rfl rfl) ?_; intro b2 k2 hb2 hN2 hle2 hk2
  refine rb rfl rfl rfl rfl (a_alloc rfl) ?_; intro b4 k4 hb4 hN4 hle4 hk4
  have d2 := (cells_at (vs := g.cs a c) hk2 rfl).le hle4
  repeat (first | refine cg_seq ?_ | refine cg_region ?_ | refine rg_nil ?_ | refine eg_then ?_ | refine qsg ?_)
  refine rb rfl rfl rfl rfl (a_alloc rfl) ?_; intro b5 k5 hb5 hN5 hle5 hk5
  refine rw1 (vs := g.cs a c) rfl rfl rfl rfl rfl rfl rfl hk5 rfl (.inl hN5) (by simp [Group.cs, Value.oneCell']) ?_
  intro k6 ht6 hk6
  have hle46 : Le k4 k6 := ht6 k4 hle5 hb5
  repeat (first | refine cg_seq ?_ | refine cg_region ?_ | refine rg_nil ?_ | refine eg_then ?_ | refine qsf ?_)
  refine rw0 rfl rfl rfl rfl rfl rfl rfl rfl hk6 (by show _ < 4; omega) (.inl hN5) ?_; intro k7 ht7 hk7
  have hle47 : Le k4 k7 := ht7 k4 hle46 hb5
  have hk7 : k7 b5 = some (.cells (gV g (.slice none 0 0)).toArray 24 (0, 0)) := hk7
  have hl2 := hl.le hle2
  have hk74 := hle47 _ _ hk4
  have n45 : b4 ≠ b5 := fun e => by rw [e, hb5] at hk4; cases hk4
  have k2b5 : k2 b5 = none := by
    cases hc : k2 b5 with
    | none => rfl
    | some ob => have := hle4 _ _ hc; rw [hb5] at this; cases this
  clear ht6 ht7 hk6 hk5 hle46 d2
  obtain ⟨_, _, _, p3'⟩ := Group.parts (cells_at (vs := g.cs a c) hk2 rfl)
  repeat (first | refine cg_seq ?_ | refine cg_region ?_ | refine rg_nil ?_ | refine eg_then ?_ | refine qsp ?_ | refine cg_block ?_)
  refine cg_loop (fun (i : Nat) e k' => ∃ v css, Le k2 k' ∧ Apart k2 v ∧ Pieces tMember k2 css (delN n (g.l.take i)) ∧ Row F.w0.heap.size k' 28 6 v (delN n (g.l.take i)).length css.flatten ∧ k' b4 = some (.cells (noG.cs none 0).toArray 24 (0, 0)) ∧ k' b5 = some (.cells (gV g v).toArray 24 (0, 0)) ∧ i ≤ g.l.length ∧
      e = [(1, .is (.int .i64 n)), (2, .is (.pointer (some ⟨b2, 0, none⟩))), (4, .is (.pointer (some ⟨b4, 0, none⟩))), (5, .is (.pointer (some ⟨b5, 0, none⟩))), (6, .is (.int .i64 (i : Int)))])
    (fun i => g.l.length - i) 0 ⟨.slice none 0 0, [], hle4.trans hle47, apart_nil _ _ _, by rw [List.take_zero, delN_nil]; exact Pieces.nil _ _, by rw [List.take_zero, delN_nil]; exact row_nil _ _ _ _, hk74, hk7, Nat.zero_le _, rfl⟩ ⟨rfl, rfl, rfl, rfl, rfl, trivial⟩ ?_
  rintro i e k8 ⟨v, css, hle8, hap, hpc, hrow, hk84, hk85, hi, rfl⟩
  have p3 := p3'.le hle8
  repeat (first | refine cg_seq ?_ | refine cg_region ?_ | refine rg_nil ?_ | refine eg_then ?_ | refine qsp ?_ | refine qsn ?_ | refine qsl ?_ | refine qsf ?_)
  refine cg_cond rfl (fun h => ?_) (fun h => ?_)
  rotate_left
  · have hil : i = g.l.length := by have := of_decide_eq_false h; omega
    rw [hil, List.take_length] at hpc hrow
    obtain ⟨a', c', rfl⟩ := row_sl hrow
    have d3 := cells_at (vs := ({ g with l := delN n g.l } : Group).cs a' c') hk85 rfl
    clear p3
    repeat (first | refine cg_seq ?_ | refine cg_region ?_ | refine eg_then ?_ | refine qsg ?_ | refine cg_exit ?_ | refine eg_then_exit ?_ | refine eg_in_exit ?_)
    refine rw1 (vs := ({ g with l := delN n g.l } : Group).cs a' c') rfl rfl rfl rfl rfl rfl rfl hk84 rfl (.inl hN4) (by simp [Group.cs, Value.oneCell']) ?_
    intro k9 ht9 hk9
    repeat (first | refine rg_nil ?_ | refine eg_then ?_ | refine cg_ret ?_)
    exact eg_returnC rfl rfl rfl (cells_at (vs := ({ g with l := delN n g.l } : Group).cs a' c') hk9 rfl) rfl ⟨a', c', rfl, GrpR.sl hpc (hrow.turnY ht9 hk84 (by decide)) (ht9 k2 hle8 (by
      cases hc : k2 b4 with
      | none => rfl
      | some ob => rw [hb4] at hc; cases hc))⟩
  have hlt : i < g.l.length := by have := of_decide_eq_true h; omega
  cases z1 : ((i : Int) == n)
  rotate_left
  · have z1 : (i : Int) = n := by simpa using z1
    repeat (first | refine cg_seq ?_ | refine cg_region ?_ | refine rg_nil ?_ | refine eg_then ?_ | refine qsp ?_ | refine cg_skip ?_ | refine cg_block ?_)
    rw [show ((i : Int) != n) = false by simp [z1]]
    repeat (first | refine cg_region ?_ | refine rg_nil ?_ | refine eg_then ?_ | refine qsp ?_ | refine qsa ?_ | refine cg_cond_false rfl ?_ | refine cg_skip ?_ | refine eg_in_normal ?_)
    exact eg_again (i + 1) _ ⟨v, css, hle8, hap, by rw [delN_at hlt z1]; exact hpc, by rw [delN_at hlt z1]; exact hrow, hk84, hk85, hlt, rfl⟩ (by omega) ⟨rfl, rfl, rfl, rfl, rfl, trivial⟩
  have z1 : (i : Int) ≠ n := by simpa using z1
  have hdn := delN_keep hlt z1
  have hdl := delN_len n (g.l.take i)
  have hti : (g.l.take i).length = i := by rw [List.length_take]; omega
  obtain ⟨bx, ox, cx, ea, ⟨a0, c0, a1, c1, rfl, hsl, hmok⟩, hcx⟩ := hl2.el i g.l[i] (List.getElem?_eq_getElem hlt)
  have hrep : tMember.rep k2 (g.l[i].cs a0 c0 a1 c1) g.l[i] := ⟨a0, c0, a1, c1, rfl, hsl, hmok⟩
  obtain ⟨m, hm⟩ : ∃ m, g.l[i] = m := ⟨_, rfl⟩
  rw [hm] at hcx hrep hdn
  subst ea
  have hHd : Le k2 (delV k8 v) := le_delV hle8 hap
  have hv4 : v.ownBlock ≠ some b4 := hrow.owner1 hk84 (by decide)
  have hv5 : v.ownBlock ≠ some b5 := hrow.owner1 hk85 (by decide)
  have dk4 : delV k8 v b4 = _ := (delV_of hv4).trans hk84
  have dk5 : delV k8 v b5 = _ := (delV_of hv5).trans hk85
  have p3 := p3'.le hHd
  have c6 := hcx.le hHd
  have ck := (cells_at (vs := gV g v) dk5 rfl).one (i := 3) rfl
  have e1 := Member.one k2 _ m hrep
  repeat (first | refine cg_seq ?_ | refine cg_region ?_ | refine rg_nil ?_ | refine eg_then ?_ | refine qsp ?_ | refine cg_skip ?_ | refine cg_block ?_)
  rw [show ((i : Int) != n) = true by simp [z1]]
  repeat (first | refine cg_cond_true rfl ?_)
  refine cg_grow 10 8 v hrow (by kernel_rfl) (by kernel_rfl) rfl (by kernel_rfl) rfl ?_
  dsimp only [List.take]
  repeat (first | refine qcp ?_ | refine qci ?_ | refine qcl ?_ | refine qcg ?_ | refine qcf ?_)
  refine wc_v rfl (loc_alloc rfl (a_slice (cells := m.cs a0 c0 a1 c1) rfl rfl rfl rfl (by kernel_rfl) rfl)) rfl ?_
  refine wc_e 0 rfl (eff_grow2 (j := 1) (news := m.cs a0 c0 a1 c1) rfl rfl rfl rfl rfl (fun k1 u _ ⟨b, hu, hkb, _⟩ => ⟨b, 0, 1, hu, cells_at hkb rfl⟩) rfl e1 (by kernel_rfl) rfl (by unfold maxLen; omega) (by omega)) ?_
  repeat (first | refine qcf ?_)
  refine wc_nil ?_
  intro k11 vs hle11 hvs
  obtain ⟨hrow11, hap11⟩ : Row F.w0.heap.size k11 28 6 (vs 27) ((delN n (g.l.take i)).length + 1) (css.flatten ++ m.cs a0 c0 a1 c1) ∧ Apart (delV k8 v) (vs 27) := hvs 27 _ rfl
  clear hvs
  dsimp only [List.drop, set, argEnv, nameE, nameP]
  generalize vs 27 = v' at hrow11 hap11 ⊢
  have hk11 := hle11 _ _ dk5
  have hk114 := hle11 _ _ dk4
  refine rw0 rfl rfl rfl rfl rfl rfl hrow11.oneV1 rfl hk11 (by show _ < 4; omega) (.inl hN5) ?_; intro k12 ht12 hk12
  repeat (first | refine cg_region ?_ | refine rg_nil ?_ | refine eg_then ?_ | refine qsp ?_ | refine qsa ?_ | refine eg_in_normal ?_)
  refine eg_again (i + 1) _ ⟨v', css ++ [m.cs a0 c0 a1 c1], ht12 _ (hHd.trans hle11) k2b5, ?_, ?_, ?_, turn1_get ht12 n45 hk114, hk12, hlt, rfl⟩ (by omega) ⟨rfl, rfl, rfl, rfl, rfl, trivial⟩
  · intro gg hgg
    cases hc : k2 gg with
    | none => rfl
    | some ob => have := hap11 gg hgg; rw [hHd _ _ hc] at this; cases this
  · rw [hdn]; exact hpc.append (Pieces.one hrep)
  · rw [hdn]; simpa using hrow11.turnY ht12 hk11 (by decide)
end Go.Wm

/-
  A configuration of the call's own; where a topic stands, whether there is a way, the program's. Conditions: that what is handed in reads as data.
-/
import Derived.Test.YtgalkgidjpbiaaaGreatC2
import Derived.Test.YtgalkgidjpbiaaaGreatS1
import Derived.Test.YtgalkgidjpbiaaaGreatS2
import Derived.Test.YtgalkgidjpbiaaaGreatS3
import Derived.Test.YtgalkgidjpbiaaaGreatS4
set_option linter.all false
namespace Go.Wm
open Go.RowKit Go.Proofs
attribute [local irreducible] RG CG EG WA Loc Det Alc CT Exit.then Exit.inBlock Code.wp bodyPost
theorem cells_ty {c c' : Array Value} {et et' : TypeId} {fr fr' : Nat × Nat} (h : some (Obj.cells c et fr) = some (Obj.cells c' et' fr')) : et = et' := by
  injection h with h
  injection h
theorem Own.turn {α : Type} {T : Ty α} {N : Nat} {k k' : PH} {et : Nat} {v : Value} {l : List α} {b et' : Nat} {c : Array Value} {fr : Nat × Nat} (h : Own T N k et v l) (ht : Turn1 k k' b) (hb : k b = some (.cells c et' fr)) (hne : et ≠ et') (hT : ∀ k k' cs x, T.rep k cs x → T.rep k' cs x) : Own T N k' et v l := by
  obtain ⟨css, ⟨h1, h1'⟩, h2, h3⟩ := h
  refine ⟨css, ⟨h1, fun i cs x a b => hT _ _ _ _ (h1' i cs x a b)⟩, h2, ?_⟩
  rcases h3 with h3 | ⟨g, cap, cur, e1, e2, e3, e4⟩
  · exact .inl h3
  · refine .inr ⟨g, cap, cur, e1, e2, turn1_get ht (fun e => ?_) e3, e4⟩
    subst e
    rw [hb] at e3
    cases e3
    exact hne rfl
/-- A cell of an element of a list of the call's own, and what a store into it leaves. -/
theorem Own.cell {α : Type} {T : Ty α} {N : Nat} {k : PH} {et : Nat} {v : Value} {l : List α} (H : Own T N k et v l) {i j : Nat} (hi : i < l.length) (hj : j < T.sz) (hT : ∀ k k' cs x, T.rep k cs x → T.rep k' cs x) :
    ∃ g cap cur cs, v = .slice (some ⟨g, 0, none⟩) l.length cap ∧ N ≤ g ∧ k g = some (.cells cur et (0, 0)) ∧ 0 + i * T.sz + j < cur.size ∧ Cells k g (0 + i * T.sz) cs ∧ T.rep k cs l[i] ∧
      ∀ k' u y, Turn1 k k' g → k' g = some (.cells (cur.setIfInBounds (0 + i * T.sz + j) u) et (0, 0)) → T.rep k (cs.set j u) y → Own T N k' et v (l.set i y) := by
  obtain ⟨css, hp, hrow⟩ := H
  have hl := hp.1
  obtain ⟨g, cap, cur, e, h1, h2, h3, h4, h5⟩ := hrow.cell (i := i) (j := j) hp.len (List.getElem?_eq_getElem (by omega)) hj
  refine ⟨g, cap, cur, css[i]'(by omega), e, h1, h2, by simpa using h3, h4, hp.2 i _ _ (List.getElem?_eq_getElem (by omega)) (List.getElem?_eq_getElem hi), fun k' u y ht hk hy => ?_⟩
  simp only [Nat.zero_add] at hk
  have hp2 := hp.set i hy
  refine ⟨_, ⟨hp2.1, fun q cs x a b => hT _ _ _ _ (hp2.2 q cs x a b)⟩, ?_⟩
  rw [List.length_set]
  exact h5 k' u ht hk
/-- Block b holds x, whose lists are the call's own. -/
structure OwnC (N : Nat) (k : PH) (b : Nat) (x : Conf) (a0 : Option Addr) (c0 : Nat) (a1 : Option Addr) (c1 : Nat) (a2 : Option Addr) (c2 : Nat) (a3 : Option Addr) (c3 : Nat) : Prop where
  at' : k b = some (.cells (x.cs a0 c0 a1 c1 a2 c2 a3 c3).toArray 29 (0, 0))
  N_le : N ≤ b
  t : Own tTopic N k 72 (.slice a0 x.topics.length c0) x.topics
  r : Own tRule N k 74 (.slice a1 x.rules.length c1) x.rules
  q : Own tRate N k 76 (.slice a2 x.rates.length c2) x.rates
  w : Own tWay N k 78 (.slice a3 x.ways.length c3) x.ways
theorem own_sl {α : Type} {T : Ty α} {N : Nat} {k : PH} {et : Nat} {a : Option Addr} {c : Nat} {l : List α} (h : Own T N k et (.slice a l.length c) l) : Sl T k a c l := by
  obtain ⟨a', c', e, h⟩ := h.sl
  simp only [Value.slice.injEq, true_and] at e
  obtain ⟨rfl, rfl⟩ := e
  exact h
section
variable {N : Nat} {k k' : PH} {b : Nat} {x : Conf} {a0 : Option Addr} {c0 : Nat} {a1 : Option Addr} {c1 : Nat} {a2 : Option Addr} {c2 : Nat} {a3 : Option Addr} {c3 : Nat}
theorem OwnC.le (H : OwnC N k b x a0 c0 a1 c1 a2 c2 a3 c3) (hl : Le k k') : OwnC N k' b x a0 c0 a1 c1 a2 c2 a3 c3 :=
  ⟨hl _ _ H.at', H.N_le, H.t.le hl, H.r.le hl, H.q.le hl, H.w.le hl⟩
theorem OwnC.cf (H : OwnC N k b x a0 c0 a1 c1 a2 c2 a3 c3) : CfAt k x a0 c0 a1 c1 a2 c2 a3 c3 := ⟨own_sl H.t, own_sl H.r, own_sl H.q, own_sl H.w⟩
theorem OwnC.cells (H : OwnC N k b x a0 c0 a1 c1 a2 c2 a3 c3) : Cells k b 0 (x.cs a0 c0 a1 c1 a2 c2 a3 c3) := cells_at H.at' rfl
theorem OwnC.setT {l : List Topic} {a : Option Addr} {c off : Nat} (H : OwnC N k b x a0 c0 a1 c1 a2 c2 a3 c3) (hn : Own tTopic N k 72 (.slice a l.length c) l) (ht : Turn1 k k' b) (ho : off = 1)
    (hk : k' b = some (.cells ((x.cs a0 c0 a1 c1 a2 c2 a3 c3).toArray.setIfInBounds off (.slice a l.length c)) 29 (0, 0))) : OwnC N k' b { x with topics := l } a c a1 c1 a2 c2 a3 c3 := by
  subst ho
  exact ⟨hk, H.N_le, hn.turn ht H.at' (by decide) (fun _ _ _ _ h => h), H.r.turn ht H.at' (by decide) (fun _ _ _ _ h => h), H.q.turn ht H.at' (by decide) (fun _ _ _ _ h => h), H.w.turn ht H.at' (by decide) (fun _ _ _ _ h => h)⟩
theorem OwnC.setR {l : List Rule} {a : Option Addr} {c off : Nat} (H : OwnC N k b x a0 c0 a1 c1 a2 c2 a3 c3) (hn : Own tRule N k 74 (.slice a l.length c) l) (ht : Turn1 k k' b) (ho : off = 2)
    (hk : k' b = some (.cells ((x.cs a0 c0 a1 c1 a2 c2 a3 c3).toArray.setIfInBounds off (.slice a l.length c)) 29 (0, 0))) : OwnC N k' b { x with rules := l } a0 c0 a c a2 c2 a3 c3 := by
  subst ho
  exact ⟨hk, H.N_le, H.t.turn ht H.at' (by decide) (fun _ _ _ _ h => h), hn.turn ht H.at' (by decide) (fun _ _ _ _ h => h), H.q.turn ht H.at' (by decide) (fun _ _ _ _ h => h), H.w.turn ht H.at' (by decide) (fun _ _ _ _ h => h)⟩
theorem OwnC.setQ {l : List Rate} {a : Option Addr} {c off : Nat} (H : OwnC N k b x a0 c0 a1 c1 a2 c2 a3 c3) (hn : Own tRate N k 76 (.slice a l.length c) l) (ht : Turn1 k k' b) (ho : off = 3)
    (hk : k' b = some (.cells ((x.cs a0 c0 a1 c1 a2 c2 a3 c3).toArray.setIfInBounds off (.slice a l.length c)) 29 (0, 0))) : OwnC N k' b { x with rates := l } a0 c0 a1 c1 a c a3 c3 := by
  subst ho
  exact ⟨hk, H.N_le, H.t.turn ht H.at' (by decide) (fun _ _ _ _ h => h), H.r.turn ht H.at' (by decide) (fun _ _ _ _ h => h), hn.turn ht H.at' (by decide) (fun _ _ _ _ h => h), H.w.turn ht H.at' (by decide) (fun _ _ _ _ h => h)⟩
theorem OwnC.setW {l : List Way} {a : Option Addr} {c off : Nat} (H : OwnC N k b x a0 c0 a1 c1 a2 c2 a3 c3) (hn : Own tWay N k 78 (.slice a l.length c) l) (ht : Turn1 k k' b) (ho : off = 4)
    (hk : k' b = some (.cells ((x.cs a0 c0 a1 c1 a2 c2 a3 c3).toArray.setIfInBounds off (.slice a l.length c)) 29 (0, 0))) : OwnC N k' b { x with ways := l } a0 c0 a1 c1 a2 c2 a c := by
  subst ho
  exact ⟨hk, H.N_le, H.t.turn ht H.at' (by decide) (fun _ _ _ _ h => h), H.r.turn ht H.at' (by decide) (fun _ _ _ _ h => h), H.q.turn ht H.at' (by decide) (fun _ _ _ _ h => h), hn.turn ht H.at' (by decide) (fun _ _ _ _ h => h)⟩
end
/-- Few enough for what is reckoned. -/
def Conf.few (x : Conf) : Prop := x.topics.length ≤ 1000000 ∧ x.rules.length ≤ 1000000 ∧ x.rates.length ≤ 1000000 ∧ x.ways.length ≤ 1000000
set_option maxHeartbeats 400000 in
theorem find_ct {k : PH} {x : Conf} {a0 : Option Addr} {c0 : Nat} (a1 : Option Addr) (c1 : Nat) (a2 : Option Addr) (c2 : Nat) (a3 : Option Addr) (c3 : Nat) (ht : Sl tTopic k a0 c0 x.topics) (hb : x.topics.length ≤ 1000000) (s : ByteArray) (hr : RightP ordTopic topicP x.topics) :
    CT Tryz.prog 126 #[.agg (x.cs a0 c0 a1 c1 a2 c2 a3 c3).toArray, .string s] k (fun _ v => v = .tuple #[.int .i64 (posF (fun t => cmpStr t.name s) x.topics : Int), .bool (knownC x s)]) := by
  refine ct_of_body (l := [_, _]) Tryz.func126 rfl Tryz.ntmps126 (by simp) (fun _ _ _ _ h => h) fun F hF0 hFm => ?_
  repeat (first | refine cg_seq ?_ | refine cg_region ?_)
  refine rb rfl rfl rfl rfl (a_box rfl rfl) ?_; intro b2 k2 hb2 hN2 hle2 hk2
  have c2 := cells_at (vs := x.cs a0 c0 a1 c1 a2 c2 a3 c3) hk2 rfl
  obtain ⟨p0, p1, p2, p3, p4⟩ := Conf.parts c2
  have hcall := binSearchSTopic_ct (g := 112) (cap := #[]) (ht.le hle2) hb ⟨s, 0, false, 0⟩ (fun y => ordTopic y ⟨s, 0, false, 0⟩) (fun k1 _ m _ cm hcm => by rw [hcm.1]; exact topicsOrd_ct m _) (right_split ordL_topic hr _)
  rw [show metF (fun y => ordTopic y ⟨s, 0, false, 0⟩) x.topics = knownC x s from known_met hr s] at hcall
  repeat (first | refine cg_seq ?_ | refine cg_region ?_ | refine rg_nil ?_ | refine eg_then ?_ | refine qsp ?_ | refine qsl ?_ | refine qsf ?_)
  refine rs rfl rfl (loc_det rfl (d_lit (cells := (⟨s, 0, false, 0⟩ : Topic).vs) rfl rfl rfl)) ?_
  skip
  refine rs rfl rfl (loc_call_is rfl rfl rfl rfl (hcall)) ?_
  repeat (first | refine rg_nil ?_ | refine eg_then ?_ | refine qsp ?_ | refine cg_ret ?_)
  exact eg_return2 rfl rfl rfl rfl
set_option maxHeartbeats 400000 in
theorem indexW_ct {k : PH} {a : Option Addr} {c : Nat} {l : List Way} (hl : Sl tWay k a c l) (x : Way) : CT Tryz.prog 188 #[.slice a l.length c, .agg x.vs.toArray] k (fun _ v => v = .int .i64 (idxF l fun y => decide (x = y))) := by
  refine ct_of_body (l := [_, _]) Tryz.func188 rfl Tryz.ntmps188 (by simp) (fun _ _ _ _ h => h) fun F hF0 hFm => ?_
  have b1 := hl.cap; have b2 := hl.max; unfold maxLen at b2
  repeat (first | refine cg_seq ?_ | refine cg_region ?_)
  refine rb rfl rfl rfl rfl (a_box rfl rfl) ?_; intro b3 k3 hb3 hN3 hle3 hk3
  have c3 := cells_at (vs := x.vs) hk3 rfl
  repeat (first | refine cg_seq ?_ | refine cg_region ?_ | refine rg_nil ?_ | refine eg_then ?_ | refine qsp ?_ | refine qsn ?_ | refine cg_block ?_)
  refine cg_loop (fun (i : Nat) e k' => k' = k3 ∧ i ≤ l.length ∧ (∀ y ∈ l.take i, decide (x = y) = false) ∧ e = [(0, .is (.slice a l.length c)), (3, .is (.pointer (some ⟨b3, 0, none⟩))), (7, .is (.int .i64 (l.length : Int))), (8, .is (.int .i64 (i : Int)))])
    (fun i => l.length - i) 0 ⟨rfl, Nat.zero_le _, by simp, rfl⟩ ⟨rfl, rfl, rfl, rfl, trivial⟩ ?_
  rintro i e k1 ⟨rfl, hi, hno, rfl⟩
  repeat (first | refine cg_seq ?_ | refine cg_region ?_ | refine rg_nil ?_ | refine eg_then ?_ | refine qsp ?_)
  refine cg_cond rfl (fun h => ?_) (fun h => ?_)
  · have hlt : i < l.length := by simpa using h
    obtain ⟨bx, ox, cx, rfl, hrep, hcx⟩ := (hl.le hle3).el i l[i] (List.getElem?_eq_getElem hlt)
    rw [hrep.1] at hcx
    repeat (first | refine cg_seq ?_ | refine cg_region ?_ | refine rg_nil ?_ | refine eg_then ?_ | refine qsp ?_ | refine cg_skip ?_ | refine cg_block ?_)
    refine cg_any (by kernel_rfl) rfl ?_
    repeat (first | refine qwp ?_ | refine qwi ?_ | refine qwg ?_ | refine qwE ?_ | (refine wn rfl ?_; refine eg_then ?_))
    skip
    cases q : decide (x = l[i])
    · repeat (first | refine cg_region ?_ | refine rg_nil ?_ | refine eg_then ?_ | refine qsp ?_ | refine qsa ?_ | refine cg_cond_false rfl ?_ | refine cg_skip ?_ | refine eg_in_normal ?_)
      refine eg_again (i + 1) _ ⟨rfl, hlt, fun y hy => ?_, rfl⟩ (by omega) ⟨rfl, rfl, rfl, rfl, trivial⟩
      rw [List.take_succ_eq_append_getElem hlt] at hy
      rcases List.mem_append.1 hy with hy | hy
      · exact hno y hy
      · simp at hy; rw [hy]; exact q
    · repeat (first | refine cg_seq ?_ | refine cg_region ?_ | refine rg_nil ?_ | refine eg_then ?_ | refine qsp ?_ | refine cg_cond_true rfl ?_ | refine cg_ret ?_ | refine eg_then_ret ?_ | refine eg_in_ret ?_)
      refine eg_return rfl rfl ?_
      rw [idxF_at hlt q hno]
  · repeat (first | refine cg_seq ?_ | refine cg_region ?_ | refine rg_nil ?_ | refine eg_then ?_ | refine qsp ?_ | refine cg_ret ?_ | refine cg_exit ?_ | refine eg_then_exit ?_ | refine eg_in_exit ?_)
    refine eg_return rfl rfl ?_
    have : i = l.length := by simp at h; omega
    rw [this, List.take_length] at hno
    rw [idxF_no hno]
set_option maxHeartbeats 400000 in
theorem containsW_ct {k : PH} {a : Option Addr} {c : Nat} {l : List Way} (hl : Sl tWay k a c l) (x : Way) : CT Tryz.prog 90 #[.slice a l.length c, .agg x.vs.toArray] k (fun _ v => v = .bool (l.any fun y => decide (y = x))) := by
  refine ct_of_body (l := [_, _]) Tryz.func90 rfl Tryz.ntmps90 (by simp) (fun _ _ _ _ h => h) fun F hF0 hFm => ?_
  repeat (first | refine cg_seq ?_ | refine cg_region ?_)
  refine rb rfl rfl rfl rfl (a_box rfl rfl) ?_; intro b3 k3 hb3 hN3 hle3 hk3
  have c3 := cells_at (vs := x.vs) hk3 rfl
  repeat (first | refine cg_seq ?_ | refine cg_region ?_ | refine rg_nil ?_ | refine eg_then ?_ | refine qsp ?_ | refine qsg ?_)
  refine rs rfl rfl (loc_call_is rfl rfl rfl rfl (indexW_ct (hl.le hle3) x)) ?_
  repeat (first | refine rg_nil ?_ | refine eg_then ?_ | refine qsp ?_ | refine cg_ret ?_)
  refine eg_return rfl rfl ?_
  rw [idxF_ge]
  congr 2
  funext y
  exact decide_eq_decide.2 eq_comm
end Go.Wm

/-
  A step done, the program's. Conditions: that what is handed in reads as data.
-/
import Derived.Test.YtgalkgidjpbiaaaGreatD6
set_option linter.all false
namespace Go.Wm
open Go.RowKit Go.Proofs
attribute [local irreducible] RG CG EG WA Loc Det Alc CT Exit.then Exit.inBlock Code.wp bodyPost
/-- The lists of x are the call's own. -/
structure OwnL (N : Nat) (k : PH) (x : Conf) (a0 : Option Addr) (c0 : Nat) (a1 : Option Addr) (c1 : Nat) (a2 : Option Addr) (c2 : Nat) (a3 : Option Addr) (c3 : Nat) : Prop where
  t : Own tTopic N k 72 (.slice a0 x.topics.length c0) x.topics
  r : Own tRule N k 74 (.slice a1 x.rules.length c1) x.rules
  q : Own tRate N k 76 (.slice a2 x.rates.length c2) x.rates
  w : Own tWay N k 78 (.slice a3 x.ways.length c3) x.ways
section
variable {N : Nat} {k k' : PH} {b : Nat} {x : Conf} {a0 : Option Addr} {c0 : Nat} {a1 : Option Addr} {c1 : Nat} {a2 : Option Addr} {c2 : Nat} {a3 : Option Addr} {c3 : Nat}
theorem OwnC.l (H : OwnC N k b x a0 c0 a1 c1 a2 c2 a3 c3) : OwnL N k x a0 c0 a1 c1 a2 c2 a3 c3 := ⟨H.t, H.r, H.q, H.w⟩
theorem OwnL.le (H : OwnL N k x a0 c0 a1 c1 a2 c2 a3 c3) (hl : Le k k') : OwnL N k' x a0 c0 a1 c1 a2 c2 a3 c3 := ⟨H.t.le hl, H.r.le hl, H.q.le hl, H.w.le hl⟩
theorem OwnL.N_le {N' : Nat} (H : OwnL N k x a0 c0 a1 c1 a2 c2 a3 c3) (hN : N' ≤ N) : OwnL N' k x a0 c0 a1 c1 a2 c2 a3 c3 := ⟨H.t.N_le hN, H.r.N_le hN, H.q.N_le hN, H.w.N_le hN⟩
theorem OwnL.cf (H : OwnL N k x a0 c0 a1 c1 a2 c2 a3 c3) : CfAt k x a0 c0 a1 c1 a2 c2 a3 c3 := ⟨own_sl H.t, own_sl H.r, own_sl H.q, own_sl H.w⟩
theorem OwnL.turn {et' : Nat} {c : Array Value} {fr : Nat × Nat} (H : OwnL N k x a0 c0 a1 c1 a2 c2 a3 c3) (ht : Turn1 k k' b) (hb : k b = some (.cells c et' fr)) (h0 : 72 ≠ et') (h1 : 74 ≠ et') (h2 : 76 ≠ et') (h3 : 78 ≠ et') : OwnL N k' x a0 c0 a1 c1 a2 c2 a3 c3 :=
  ⟨H.t.turn ht hb h0 (fun _ _ _ _ h => h), H.r.turn ht hb h1 (fun _ _ _ _ h => h), H.q.turn ht hb h2 (fun _ _ _ _ h => h), H.w.turn ht hb h3 (fun _ _ _ _ h => h)⟩
end
theorem own_nil {α : Type} (T : Ty α) (N : Nat) (k : PH) (et : Nat) : Own T N k et (.slice none 0 0) [] := ⟨[], Pieces.nil T k, row_nil N k et T.sz⟩
theorem noOwn (N : Nat) (k : PH) : OwnL N k noConf none 0 none 0 none 0 none 0 := ⟨own_nil _ _ _ _, own_nil _ _ _ _, own_nil _ _ _ _, own_nil _ _ _ _⟩
/-- A configuration of the call's own, as a value. -/
def ConfV (x : Conf) (N : Nat) (k : PH) (v : Value) : Prop := ∃ a0 c0 a1 c1 a2 c2 a3 c3, v = .agg (x.cs a0 c0 a1 c1 a2 c2 a3 c3).toArray ∧ OwnL N k x a0 c0 a1 c1 a2 c2 a3 c3
theorem ConfV.mono {x : Conf} : ∀ N k k' v, Le k k' → ConfV x N k v → ConfV x N k' v := fun N k k' v hle ⟨a0, c0, a1, c1, a2, c2, a3, c3, h1, h2⟩ => ⟨a0, c0, a1, c1, a2, c2, a3, c3, h1, h2.le hle⟩
/-- What Do hands back. -/
def DoV (x : Conf) (e : Int) (N : Nat) (k : PH) (v : Value) : Prop := ∃ a0 c0 a1 c1 a2 c2 a3 c3, v = .tuple #[.agg (x.cs a0 c0 a1 c1 a2 c2 a3 c3).toArray, .int .i64 e] ∧ OwnL N k x a0 c0 a1 c1 a2 c2 a3 c3
theorem DoV.mono {x : Conf} {e : Int} : ∀ N k k' v, Le k k' → DoV x e N k v → DoV x e N k' v := fun N k k' v hle ⟨a0, c0, a1, c1, a2, c2, a3, c3, h1, h2⟩ => ⟨a0, c0, a1, c1, a2, c2, a3, c3, h1, h2.le hle⟩
theorem doV_mk {N : Nat} {k : PH} {x y : Conf} {e f : Int} {a0 : Option Addr} {c0 : Nat} {a1 : Option Addr} {c1 : Nat} {a2 : Option Addr} {c2 : Nat} {a3 : Option Addr} {c3 : Nat} (h : (y, f) = (x, e)) (H : OwnL N k x a0 c0 a1 c1 a2 c2 a3 c3) : DoV y f N k (.tuple #[.agg (x.cs a0 c0 a1 c1 a2 c2 a3 c3).toArray, .int .i64 e]) := by
  cases h; exact ⟨_, _, _, _, _, _, _, _, rfl, H⟩
theorem act_err {x : Conf} {s : Step} {e : Int} (h : actC x s = .error e) : e ≠ 0 := by
  unfold actC at h
  repeat' split at h
  all_goals first | (cases h; decide) | cases h
set_option maxHeartbeats 4000000 in
theorem do_ctn {k : PH} {x : Conf} {a0 : Option Addr} {c0 : Nat} {a1 : Option Addr} {c1 : Nat} {a2 : Option Addr} {c2 : Nat} {a3 : Option Addr} {c3 : Nat} {s : Step} (H : CfAt k x a0 c0 a1 c1 a2 c2 a3 c3) (hf : x.few) (hok : s.ok) :
    CTN Tryz.prog 18 #[.agg (x.cs a0 c0 a1 c1 a2 c2 a3 c3).toArray, .agg s.vs.toArray] k (DoV (doC x s).1 (doC x s).2) := by
  refine ctn_of_body (l := [_, _]) Tryz.func18 rfl Tryz.ntmps18 (by simp) DoV.mono fun F hF0 hFm => ?_
  have hf0 := hf.1; have hf1 := hf.2.1; have hf2 := hf.2.2.1; have hf3 := hf.2.2.2
  repeat (first | refine cg_seq ?_ | refine cg_region ?_)
  refine rb rfl rfl rfl rfl (a_box rfl rfl) ?_; intro b2 k2 hb2 hN2 hle2 hk2
  refine rb rfl rfl rfl rfl (a_box rfl rfl) ?_; intro b3 k3 hb3 hN3 hle3 hk3
  refine rb rfl rfl rfl rfl (a_alloc rfl) ?_; intro b4 k4 hb4 hN4 hle4 hk4
  have H := H.le (hle2.trans (hle3.trans hle4))
  have cs := (cells_at (vs := s.vs) hk3 rfl).le hle4
  have c := (cells_at (vs := x.cs a0 c0 a1 c1 a2 c2 a3 c3) hk2 rfl).le (hle3.trans hle4)
  repeat (first | refine cg_seq ?_ | refine cg_region ?_ | refine rg_nil ?_ | refine eg_then ?_ | refine qsp ?_ | refine qsg ?_)
  refine rs rfl rfl (loc_call_is rfl rfl rfl rfl (check_ct H)) ?_
  cases q1 : confP x
  · simp only [Bool.false_eq_true, if_false]
    repeat (first | refine cg_seq ?_ | refine cg_region ?_ | refine rg_nil ?_ | refine eg_then ?_ | refine qsp ?_ | refine qso ?_ | refine cg_cond_true rfl ?_)
    refine rs rfl rfl (loc_det rfl (d_lit (cells := noConf.cs none 0 none 0 none 0 none 0) rfl rfl rfl)) ?_
    skip
    refine rw1 (vs := noConf.cs none 0 none 0 none 0 none 0) rfl rfl rfl rfl rfl rfl rfl hk4 rfl (.inl hN4) ?_ ?_
    · simp [Conf.cs, Value.oneCell']
    intro k9 ht9 hk9
    have c9 := cells_at (vs := noConf.cs none 0 none 0 none 0 none 0) hk9 rfl
    repeat (first | refine rg_nil ?_ | refine eg_then ?_ | refine qsp ?_ | refine cg_ret ?_ | refine eg_then_ret ?_)
    exact eg_returnC2 rfl rfl rfl rfl c9 rfl (doV_mk (by simp [doC, q1]) (noOwn _ _))
  simp only [if_true]
  repeat (first | refine qsp ?_ | refine qsg ?_)
  refine rs rfl rfl (loc_call_is rfl rfl rfl rfl (formed_ct s hok)) ?_
  repeat (first | refine rg_nil ?_ | refine eg_then ?_ | refine qsp ?_)
  cases q2 : formS s
  · repeat (first | refine cg_seq ?_ | refine cg_region ?_ | refine cg_cond_true rfl ?_)
    refine rs rfl rfl (loc_det rfl (d_lit (cells := noConf.cs none 0 none 0 none 0 none 0) rfl rfl rfl)) ?_
    skip
    refine rw1 (vs := noConf.cs none 0 none 0 none 0 none 0) rfl rfl rfl rfl rfl rfl rfl hk4 rfl (.inl hN4) ?_ ?_
    · simp [Conf.cs, Value.oneCell']
    intro k9 ht9 hk9
    have c9 := cells_at (vs := noConf.cs none 0 none 0 none 0 none 0) hk9 rfl
    repeat (first | refine rg_nil ?_ | refine eg_then ?_ | refine qsp ?_ | refine cg_ret ?_ | refine eg_then_ret ?_)
    exact eg_returnC2 rfl rfl rfl rfl c9 rfl (doV_mk (by simp [doC, q1, q2]) (noOwn _ _))
  obtain ⟨p0, p1, p2, p3, p4⟩ := Conf.parts c
  repeat (first | refine cg_seq ?_ | refine cg_region ?_ | refine rg_nil ?_ | refine eg_then ?_ | refine qsp ?_ | refine qsl ?_ | refine qsf ?_ | refine cg_cond_false rfl ?_ | refine cg_skip ?_)
  cases q3 : (x.ver == 1099511627776)
  rotate_left
  · have q3' : x.ver = 1099511627776 := by simpa using q3
    repeat (first | refine cg_seq ?_ | refine cg_region ?_ | refine cg_cond_true rfl ?_)
    refine rs rfl rfl (loc_det rfl (d_lit (cells := noConf.cs none 0 none 0 none 0 none 0) rfl rfl rfl)) ?_
    skip
    refine rw1 (vs := noConf.cs none 0 none 0 none 0 none 0) rfl rfl rfl rfl rfl rfl rfl hk4 rfl (.inl hN4) ?_ ?_
    · simp [Conf.cs, Value.oneCell']
    intro k9 ht9 hk9
    have c9 := cells_at (vs := noConf.cs none 0 none 0 none 0 none 0) hk9 rfl
    repeat (first | refine rg_nil ?_ | refine eg_then ?_ | refine qsp ?_ | refine cg_ret ?_ | refine eg_then_ret ?_)
    exact eg_returnC2 rfl rfl rfl rfl c9 rfl (doV_mk (by simp [doC, q1, q2, q3']) (noOwn _ _))
  have q3' : ¬ x.ver = 1099511627776 := by simpa using q3
  have hdo : doC x s = finC (actC { x with ver := x.ver + 1 } s) := by simp [doC, q1, q2, q3']
  obtain ⟨r1, r2, r3, r4, r5, r6⟩ := conf_parts q1
  have hver : 0 ≤ x.ver ∧ x.ver < 1099511627776 := by
    simp only [inI, Bool.and_eq_true, decide_eq_true_eq] at r1
    omega
  obtain ⟨y, hy⟩ : ∃ y : Conf, y = { x with ver := x.ver + 1 } := ⟨_, rfl⟩
  rw [← hy] at hdo
  have hyP : confP y = true := by
    rw [hy]
    have : confP { x with ver := x.ver + 1 } = confP x := by
      unfold confP
      have e1 : inI (x.ver + 1) 0 1099511627776 = true := by simp [inI]; omega
      have e2 : inI x.ver 0 1099511627776 = true := r1
      show (inI (x.ver + 1) 0 1099511627776 && _) = _
      rw [e1, e2]
      rfl
    rw [this, q1]
  have hyf : y.few := by rw [hy]; exact hf
  repeat (first | refine cg_seq ?_ | refine eg_then ?_ | refine cg_cond_false rfl ?_ | refine cg_skip ?_)
  refine cg_calls 17 (by kernel_rfl) (by kernel_rfl) rfl rfl ?_
  dsimp only [List.take]
  repeat (first | refine qca ?_ | refine qcl ?_ | refine qcf ?_)
  refine wc_iv rfl (loci_ctn (φ := fun N k v => Own tTopic N k 72 v x.topics) xn_size rfl rfl rfl rfl (Le.refl _) (fun M k k' v hle h => h.le hle) (fun w k hle hs => (cloneTopic_ct H.t (by omega) w k hle hs).mono fun e w' ⟨v, k', h1, h2, h3, h4, css, h5, h6⟩ => ⟨v, k', h1, h2, h3, h4, css, ⟨h5.1, h5.2⟩, h6⟩)) rfl ?_
  repeat (first | refine qcl ?_ | refine qcf ?_)
  refine wc_iv rfl (loci_ctn (φ := fun N k v => Own tRule N k 74 v x.rules) xn_size rfl rfl rfl rfl (Le.refl _) (fun M k k' v hle h => h.le hle) (fun w k hle hs => (cloneRule_ct H.r (by omega) w k hle hs).mono fun e w' ⟨v, k', h1, h2, h3, h4, css, h5, h6⟩ => ⟨v, k', h1, h2, h3, h4, css, ⟨h5.1, h5.2⟩, h6⟩)) rfl ?_
  repeat (first | refine qcl ?_ | refine qcf ?_)
  refine wc_iv rfl (loci_ctn (φ := fun N k v => Own tRate N k 76 v x.rates) xn_size rfl rfl rfl rfl (Le.refl _) (fun M k k' v hle h => h.le hle) (fun w k hle hs => (cloneRate_ct H.q (by omega) w k hle hs).mono fun e w' ⟨v, k', h1, h2, h3, h4, css, h5, h6⟩ => ⟨v, k', h1, h2, h3, h4, css, ⟨h5.1, h5.2⟩, h6⟩)) rfl ?_
  repeat (first | refine qcl ?_ | refine qcf ?_)
  refine wc_iv rfl (loci_ctn (φ := fun N k v => Own tWay N k 78 v x.ways) xn_size rfl rfl rfl rfl (Le.refl _) (fun M k k' v hle h => h.le hle) (fun w k hle hs => (cloneWay_ct H.w (by omega) w k hle hs).mono fun e w' ⟨v, k', h1, h2, h3, h4, css, h5, h6⟩ => ⟨v, k', h1, h2, h3, h4, css, ⟨h5.1, h5.2⟩, h6⟩)) rfl ?_
  refine wc_iv (φ := ConfV y F.w0.heap.size) rfl (LocI.elim 26 rfl (by kernel_rfl) (ConfV.mono _) ?_) rfl ?_
  · rintro v1 k5 hle5 ⟨M1, m1, _, o1⟩
    refine LocI.elim 29 rfl (by kernel_rfl) (ConfV.mono _) ?_
    rintro v2 k6 hle6 ⟨M2, m2, _, o2⟩
    refine LocI.elim 32 rfl (by kernel_rfl) (ConfV.mono _) ?_
    rintro v3 k7 hle7 ⟨M3, m3, _, o3⟩
    refine LocI.elim 35 rfl (by kernel_rfl) (ConfV.mono _) ?_
    rintro v4 k8 hle8 ⟨M4, m4, _, o4⟩
    obtain ⟨a0, c0, rfl, _⟩ := o1.sl
    obtain ⟨a1, c1, rfl, _⟩ := o2.sl
    obtain ⟨a2, c2, rfl, _⟩ := o3.sl
    obtain ⟨a3, c3, rfl, _⟩ := o4.sl
    refine LocI.of (loc_isv (loc_det rfl (d_lit (cells := y.cs a0 c0 a1 c1 a2 c2 a3 c3) rfl rfl (by rw [hy]; rfl))) rfl (ConfV.mono _) fun k9 hle9 => ?_)
    rw [hy]
    exact ⟨a0, c0, a1, c1, a2, c2, a3, c3, rfl, (o1.le (hle6.trans (hle7.trans (hle8.trans hle9)))).N_le m1, (o2.le (hle7.trans (hle8.trans hle9))).N_le m2, (o3.le (hle8.trans hle9)).N_le m3, (o4.le hle9).N_le m4⟩
  refine wc_iv rfl (loci_newN xn_size rfl (Le.refl _) (a_alloc rfl)) rfl ?_
  refine wc_nil ?_
  intro k5 vs hle5 hvs
  obtain ⟨a0, c0, a1, c1, a2, c2, a3, c3, ev, HO⟩ := hvs 36 _ rfl
  obtain ⟨b6, e6, hk6, hn6, hN6⟩ := hvs 6 _ rfl
  clear hvs
  dsimp only [List.drop]
  simp only [nameE, nameP]
  rw [e6, ev]
  refine rw1 (vs := y.cs a0 c0 a1 c1 a2 c2 a3 c3) rfl rfl rfl rfl rfl rfl rfl hk6 rfl (.inl hN6) ?_ ?_
  · simp [Conf.cs, Value.oneCell']
  intro k6 ht6 hk6'
  have hle6 : Le k4 k6 := ht6 k4 hle5 hn6
  have HO := HO.turn ht6 hk6 (by decide) (by decide) (by decide) (by decide)
  have HC : OwnC F.w0.heap.size k6 b6 y a0 c0 a1 c1 a2 c2 a3 c3 := ⟨hk6', hN6, HO.t, HO.r, HO.q, HO.w⟩
  have cs := cs.le hle6
  have h46 : b4 ≠ b6 := fun e => by rw [← e, hk4] at hn6; cases hn6
  have hk4 := hle6 _ _ hk4
  obtain ⟨n1, n8⟩ := form_kind q2
  obtain ⟨s0, s1, s2, s3, s4, s5⟩ := Step.parts cs
  repeat (first | refine cg_seq ?_ | refine rg_nil ?_ | refine eg_then ?_)
  refine cg_fresh 5 [] (by kernel_rfl) (by kernel_rfl) rfl rfl rfl ?_
  dsimp only [List.take]
  skip
  refine fs_v rfl (loc_call rfl rfl rfl rfl DoesV.mono does_ct) rfl ?_
  repeat (first | refine qfl ?_ | refine qff ?_)
  refine fs_v (φ := fun k v => ∃ g cap, v = .func (.func g) #[] cap ∧ StepCT s.kind g cap k) rfl (loc_elim 37 rfl (by kernel_rfl) (fun k k' v hle ⟨g, cap, h1, h2⟩ => ⟨g, cap, h1, h2.le hle⟩) ?_) rfl ?_
  · rintro v k7 hle7 ⟨r, kv, rfl, hm, hall⟩
    obtain ⟨g, cap, hg, hstep⟩ := hall s.kind n1 n8
    refine loc_isv (v := .func (.func g) #[] cap) (loc_det rfl ?_) rfl (fun k k' v hle ⟨g, cap, h1, h2⟩ => ⟨g, cap, h1, h2.le hle⟩) fun k8 hle8 => ⟨g, cap, rfl, hstep.le hle8⟩
    rw [show Value.func (.func g) #[] cap = (kget s.kind kv).getD .nilFunc by rw [hg]; rfl]
    exact d_look hm rfl rfl rfl
  refine fs_s rfl (loc_det rfl (d_load_agg (vs := s.vs) rfl rfl rfl rfl cs)) rfl ?_
  refine fs_nil ?_
  intro k7 vs hle7 hvs _ _
  obtain ⟨g, cap, eg, hfn, hstep⟩ := hvs 40 _ rfl
  clear hvs
  dsimp only [List.drop]
  simp only [nameE, nameP]
  rw [eg]
  refine rcmn (first := #[]) rfl rfl rfl rfl rfl rfl rfl (Nat.le_refl _) (hstep k7 (Le.refl _) F.w0.heap.size b6 y a0 c0 a1 c1 a2 c2 a3 c3 s (HC.le hle7) hyf hyP hok q2 rfl) (fun g h => .inl (by rw [h]; exact hN6)) ?_
  intro v k8 hold hpost
  have hk4 : k8 b4 = some _ := hold (fun b => if b = b6 then none else k7 b) (fun b o h => by by_cases e : b = b6 <;> simp [e] at h; exact h) (fun b e => by simp [e]) b4 _ (by simp [h46]; exact hle7 _ _ hk4)
  cases hact : actC y s with
  | error e =>
    rw [hact] at hpost hdo
    have hpost : v = .int .i64 e := hpost
    subst hpost
    have he := act_err hact
    repeat (first | refine cg_seq ?_ | refine cg_region ?_ | refine rg_nil ?_ | refine eg_then ?_ | refine qsp ?_)
    rw [show (e != 0) = true by simpa using he]
    repeat (first | refine cg_seq ?_ | refine cg_region ?_ | refine cg_cond_true rfl ?_)
    refine rs rfl rfl (loc_det rfl (d_lit (cells := noConf.cs none 0 none 0 none 0 none 0) rfl rfl rfl)) ?_
    repeat (first | refine qsp ?_)
    refine rw1 (vs := noConf.cs none 0 none 0 none 0 none 0) rfl rfl rfl rfl rfl rfl rfl hk4 rfl (.inl hN4) ?_ ?_
    · simp [Conf.cs, Value.oneCell']
    intro k9 ht9 hk9
    have c9 := cells_at (vs := noConf.cs none 0 none 0 none 0 none 0) hk9 rfl
    repeat (first | refine rg_nil ?_ | refine eg_then ?_ | refine qsp ?_ | refine cg_ret ?_ | refine eg_then_ret ?_)
    exact eg_returnC2 rfl rfl rfl rfl c9 rfl (doV_mk hdo (noOwn _ _))
  | ok z =>
    rw [hact] at hpost hdo
    obtain ⟨rfl, a0, c0, a1, c1, a2, c2, a3, c3, HC⟩ := hpost
    have cz := HC.cells
    repeat (first | refine cg_seq ?_ | refine cg_region ?_ | refine rg_nil ?_ | refine eg_then ?_ | refine qsp ?_ | refine qsg ?_ | refine cg_cond_false rfl ?_ | refine cg_skip ?_)
    refine rw1 (vs := z.cs a0 c0 a1 c1 a2 c2 a3 c3) rfl rfl rfl rfl rfl rfl rfl hk4 rfl (.inl hN4) ?_ ?_
    · simp [Conf.cs, Value.oneCell']
    intro k9 ht9 hk9
    have c9 := cells_at (vs := z.cs a0 c0 a1 c1 a2 c2 a3 c3) hk9 rfl
    repeat (first | refine rg_nil ?_ | refine eg_then ?_ | refine qsp ?_ | refine cg_ret ?_)
    exact eg_returnC2 rfl rfl rfl rfl c9 rfl (doV_mk hdo (HC.l.turn ht9 hk4 (by decide) (by decide) (by decide) (by decide)))
end Go.Wm

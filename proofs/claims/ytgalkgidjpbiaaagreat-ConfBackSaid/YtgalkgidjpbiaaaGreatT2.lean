/-
  ConfBack, walked. Conditions: that what is handed in reads as data.
-/
import Derived.Test.YtgalkgidjpbiaaaGreatR13
import Derived.Test.YtgalkgidjpbiaaaGreatD7
import Derived.Test.YtgalkgidjpbiaaaGreatE13
import Derived.Test.YtgalkgidjpbiaaaGreatB1
import Derived.Test.YtgalkgidjpbiaaaGreatCoB
import Derived.Test.YtgalkgidjpbiaaaGreatL1
import Derived.Test.YtgalkgidjpbiaaaGreatR1
set_option linter.all false
namespace Go.Wm
open Go.RowKit Go.Proofs
attribute [local irreducible] RG CG EG WA Loc Det Alc CT Exit.then Exit.inBlock Code.wp bodyPost
set_option maxHeartbeats 4000000 in
theorem refDoes_ctn {k : PH} {x : Conf} {a0 : Option Addr} {c0 : Nat} {a1 : Option Addr} {c1 : Nat} {a2 : Option Addr} {c2 : Nat} {a3 : Option Addr} {c3 : Nat} {s : Step} (H : CfAt k x a0 c0 a1 c1 a2 c2 a3 c3) (hf : x.few) (hok : s.ok) :
    CTN Tryz.prog 37 #[.agg (x.cs a0 c0 a1 c1 a2 c2 a3 c3).toArray, .agg s.vs.toArray] k (DoV (doC x s).1 (doC x s).2) := by
  refine ctn_of_body (l := [_, _]) Tryz.func37 rfl Tryz.ntmps37 (by simp) DoV.mono fun F hF0 hFm => ?_
  repeat (first | refine cg_seq ?_ | refine cg_region ?_)
  refine rb rfl rfl rfl rfl (a_box rfl rfl) ?_; intro b2 k2 hb2 hN2 hle2 hk2
  refine rb rfl rfl rfl rfl (a_box rfl rfl) ?_; intro b3 k3 hb3 hN3 hle3 hk3
  refine rb rfl rfl rfl rfl (a_alloc rfl) ?_; intro b4 k4 hb4 hN4 hle4 hk4
  have H := H.le (hle2.trans (hle3.trans hle4))
  have cs := (cells_at (vs := s.vs) hk3 rfl).le hle4
  have c := (cells_at (vs := x.cs a0 c0 a1 c1 a2 c2 a3 c3) hk2 rfl).le (hle3.trans hle4)
  repeat (first | refine cg_seq ?_ | refine cg_region ?_ | refine rg_nil ?_ | refine eg_then ?_ | refine qsp ?_ | refine qsg ?_)
  refine rs rfl rfl (loc_call_is rfl rfl rfl rfl (refCheck_ct H)) ?_
  cases q1 : confP x
  · simp only [Bool.false_eq_true, if_false]
    repeat (first | refine cg_seq ?_ | refine cg_region ?_ | refine rg_nil ?_ | refine eg_then ?_ | refine qsp ?_ | refine qso ?_ | refine cg_cond_true rfl ?_)
    refine rs rfl rfl (loc_det rfl (d_lit (cells := noConf.cs none 0 none 0 none 0 none 0) rfl rfl rfl)) ?_
    skip
    refine rw1 (vs := noConf.cs none 0 none 0 none 0 none 0) rfl rfl rfl rfl rfl rfl rfl hk4 rfl (.inl hN4) ?_ ?_
    · simp [Conf.cs, Value.oneCell']
    intro k9 ht9 hk9
    have c9 := cells_at (vs := noConf.cs none 0 none 0 none 0 none 0) hk9 rfl
    repeat (first | refine rg_nil ?_ | refine eg_then ?_ | refine qsp ?_ | refine cg_ret ?_ | refine eg_then_ret ?_)
    exact eg_returnC2 rfl rfl rfl rfl c9 rfl (doV_mk (by simp [doC, q1]) (noOwn _ _))
  simp only [if_true]
  repeat (first | refine qsp ?_ | refine qsg ?_)
  skip
  refine rs rfl rfl (loc_call_is rfl rfl rfl rfl (refForm_ct s hok)) ?_
  repeat (first | refine rg_nil ?_ | refine eg_then ?_ | refine qsp ?_)
  cases q2 : formS s
  · repeat (first | refine cg_seq ?_ | refine cg_region ?_ | refine cg_cond_true rfl ?_)
    refine rs rfl rfl (loc_det rfl (d_lit (cells := noConf.cs none 0 none 0 none 0 none 0) rfl rfl rfl)) ?_
    skip
    refine rw1 (vs := noConf.cs none 0 none 0 none 0 none 0) rfl rfl rfl rfl rfl rfl rfl hk4 rfl (.inl hN4) ?_ ?_
    · simp [Conf.cs, Value.oneCell']
    intro k9 ht9 hk9
    have c9 := cells_at (vs := noConf.cs none 0 none 0 none 0 none 0) hk9 rfl
    repeat (first | refine rg_nil ?_ | refine eg_then ?_ | refine qsp ?_ | refine cg_ret ?_ | refine eg_then_ret ?_)
    exact eg_returnC2 rfl rfl rfl rfl c9 rfl (doV_mk (by simp [doC, q1, q2]) (noOwn _ _))
  obtain ⟨p0, p1, p2, p3, p4⟩ := Conf.parts c
  repeat (first | refine cg_seq ?_ | refine cg_region ?_ | refine rg_nil ?_ | refine eg_then ?_ | refine qsp ?_ | refine qsl ?_ | refine qsf ?_ | refine cg_cond_false rfl ?_ | refine cg_skip ?_)
  cases q3 : (x.ver == 1099511627776)
  rotate_left
  · have q3' : x.ver = 1099511627776 := by simpa using q3
    repeat (first | refine cg_seq ?_ | refine cg_region ?_ | refine cg_cond_true rfl ?_)
    refine rs rfl rfl (loc_det rfl (d_lit (cells := noConf.cs none 0 none 0 none 0 none 0) rfl rfl rfl)) ?_
    skip
    refine rw1 (vs := noConf.cs none 0 none 0 none 0 none 0) rfl rfl rfl rfl rfl rfl rfl hk4 rfl (.inl hN4) ?_ ?_
    · simp [Conf.cs, Value.oneCell']
    intro k9 ht9 hk9
    have c9 := cells_at (vs := noConf.cs none 0 none 0 none 0 none 0) hk9 rfl
    repeat (first | refine rg_nil ?_ | refine eg_then ?_ | refine qsp ?_ | refine cg_ret ?_ | refine eg_then_ret ?_)
    exact eg_returnC2 rfl rfl rfl rfl c9 rfl (doV_mk (by simp [doC, q1, q2, q3']) (noOwn _ _))
  have q3' : ¬ x.ver = 1099511627776 := by simpa using q3
  have hdo : doC x s = finC (actC { x with ver := x.ver + 1 } s) := by simp [doC, q1, q2, q3']
  obtain ⟨r1, r2, r3, r4, r5, r6⟩ := conf_parts q1
  have hver : 0 ≤ x.ver ∧ x.ver < 1099511627776 := by
    simp only [inI, Bool.and_eq_true, decide_eq_true_eq] at r1
    omega
  obtain ⟨y, hy⟩ : ∃ y : Conf, y = { x with ver := x.ver + 1 } := ⟨_, rfl⟩
  rw [← hy] at hdo
  have hyP : confP y = true := by
    rw [hy]
    have : confP { x with ver := x.ver + 1 } = confP x := by
      unfold confP
      have e1 : inI (x.ver + 1) 0 1099511627776 = true := by simp [inI]; omega
      have e2 : inI x.ver 0 1099511627776 = true := r1
      show (inI (x.ver + 1) 0 1099511627776 && _) = _
      rw [e1, e2]
      rfl
    rw [this, q1]
  have hyf : y.few := by rw [hy]; exact hf
  have c := c
  repeat (first | refine cg_seq ?_ | refine cg_region ?_ | refine eg_then ?_ | refine qsg ?_ | refine cg_cond_false rfl ?_ | refine cg_skip ?_)
  refine rvn rfl rfl rfl rfl rfl rfl rfl (refCopy_ctn H hf) ?_
  rintro N5 k5 v5 hN5 hnew5 hle5 ⟨a0, c0, a1, c1, a2, c2, a3, c3, rfl, HO⟩
  skip
  refine rb rfl rfl rfl rfl (a_alloc rfl) ?_; intro b6 k6 hb6 hN6 hle6 hk6
  refine rw1 (vs := x.cs a0 c0 a1 c1 a2 c2 a3 c3) rfl rfl rfl rfl rfl rfl rfl hk6 rfl (.inl hN6) ?_ ?_
  · simp [Conf.cs, Value.oneCell']
  intro k7 ht7 hk7
  have hle7 : Le k5 k7 := ht7 k5 hle6 hb6
  have h46 : b4 ≠ b6 := fun e => by
    have := hle5 _ _ hk4
    rw [e, hb6] at this; cases this
  have HO7 := HO.le hle7
  have cs7 := cs.le (hle5.trans hle7)
  have hk47 := hle7 _ _ (hle5 _ _ hk4)
  have h36 : b3 ≠ b6 := fun e => by
    have := hle5 _ _ (hle4 _ _ hk3)
    rw [e, hb6] at this; cases this
  have hk37 := hle7 _ _ (hle5 _ _ (hle4 _ _ hk3))
  obtain ⟨p0, p1, p2, p3, p4⟩ := Conf.parts (cells_at (vs := x.cs a0 c0 a1 c1 a2 c2 a3 c3) hk7 rfl)
  repeat (first | refine cg_seq ?_ | refine cg_region ?_ | refine rg_nil ?_ | refine eg_then ?_ | refine qsa ?_ | refine qsl ?_ | refine qsf ?_)
  refine rw0 rfl rfl rfl rfl rfl rfl rfl rfl hk7 ?_ (.inl hN6) ?_
  · show 0 < 5
    omega
  intro k8 ht8 hk8
  have hk8' : k8 b6 = some (.cells (y.cs a0 c0 a1 c1 a2 c2 a3 c3).toArray 29 (0, 0)) := by rw [hy]; exact hk8
  have HO8 : OwnL N5 k8 y a0 c0 a1 c1 a2 c2 a3 c3 := by
    have h := HO7.turn ht8 hk7 (by decide) (by decide) (by decide) (by decide)
    rw [hy]
    exact ⟨h.t, h.r, h.q, h.w⟩
  have HL := HO8.N_le hN5
  have HC : OwnC F.w0.heap.size k8 b6 y a0 c0 a1 c1 a2 c2 a3 c3 := ⟨hk8', hN6, HL.t, HL.r, HL.q, HL.w⟩
  have hk48 := turn1_get ht8 h46 hk47
  have cs := cells_at (vs := s.vs) (turn1_get ht8 h36 hk37) rfl
  have hnb : ∀ d, a0 = some d → b4 ≠ d.block := fun d e e' => by
    subst e
    have := (HO.t.block (g := d.block) rfl).1
    have h1 := hnew5 d.block this
    rw [← e', hk4] at h1
    cases h1
  repeat (first | refine cg_seq ?_ | refine cg_region ?_ | refine rg_nil ?_ | refine eg_then ?_ | refine qsg ?_)
  refine rcmn (first := #[]) rfl rfl rfl rfl rfl rfl rfl (Nat.le_refl _) (refDo_ctm HC hyf hyP hok q2) (fun g h => .inl ?_) ?_
  · rcases h with rfl | ⟨d, e, rfl⟩
    · exact hN6
    · subst e
      exact Nat.le_trans hN5 (HO.t.block (g := d.block) rfl).1
  intro v k10 hold hpost
  have hk4 : k10 b4 = some _ := hold (fun g => if g = b4 then k8 b4 else none) (fun g o h => by by_cases e : g = b4 <;> simp [e] at h; rw [e]; exact h) (fun g h => by
    show (if g = b4 then k8 b4 else none) = none
    rw [if_neg]
    rcases h with rfl | ⟨d, e, rfl⟩
    · exact fun e => h46 e.symm
    · exact fun e' => hnb d e e'.symm) b4 _ (by show (if b4 = b4 then k8 b4 else none) = _; rw [if_pos rfl]; exact hk48)
  cases hact : actC y s with
  | error e =>
    rw [hact] at hpost hdo
    have hpost : v = .int .i64 e := hpost
    subst hpost
    have he := act_err hact
    repeat (first | refine cg_seq ?_ | refine cg_region ?_ | refine rg_nil ?_ | refine eg_then ?_ | refine qsp ?_)
    rw [show (e != 0) = true by simpa using he]
    repeat (first | refine cg_seq ?_ | refine cg_region ?_ | refine cg_cond_true rfl ?_)
    refine rs rfl rfl (loc_det rfl (d_lit (cells := noConf.cs none 0 none 0 none 0 none 0) rfl rfl rfl)) ?_
    repeat (first | refine qsp ?_)
    refine rw1 (vs := noConf.cs none 0 none 0 none 0 none 0) rfl rfl rfl rfl rfl rfl rfl hk4 rfl (.inl hN4) ?_ ?_
    · simp [Conf.cs, Value.oneCell']
    intro k9 ht9 hk9
    have c9 := cells_at (vs := noConf.cs none 0 none 0 none 0 none 0) hk9 rfl
    repeat (first | refine rg_nil ?_ | refine eg_then ?_ | refine qsp ?_ | refine cg_ret ?_ | refine eg_then_ret ?_)
    exact eg_returnC2 rfl rfl rfl rfl c9 rfl (doV_mk hdo (noOwn _ _))
  | ok z =>
    rw [hact] at hpost hdo
    obtain ⟨rfl, a0, c0, a1, c1, a2, c2, a3, c3, HC⟩ := hpost
    have cz := HC.cells
    repeat (first | refine cg_seq ?_ | refine cg_region ?_ | refine rg_nil ?_ | refine eg_then ?_ | refine qsp ?_ | refine qsg ?_ | refine cg_cond_false rfl ?_ | refine cg_skip ?_)
    refine rw1 (vs := z.cs a0 c0 a1 c1 a2 c2 a3 c3) rfl rfl rfl rfl rfl rfl rfl hk4 rfl (.inl hN4) ?_ ?_
    · simp [Conf.cs, Value.oneCell']
    intro k9 ht9 hk9
    have c9 := cells_at (vs := z.cs a0 c0 a1 c1 a2 c2 a3 c3) hk9 rfl
    repeat (first | refine rg_nil ?_ | refine eg_then ?_ | refine qsp ?_ | refine cg_ret ?_)
    exact eg_returnC2 rfl rfl rfl rfl c9 rfl (doV_mk hdo (HC.l.turn ht9 hk4 (by decide) (by decide) (by decide) (by decide)))
end Go.Wm
namespace Go.Wm
open Go.RowKit Go.Proofs
attribute [local irreducible] RG CG EG WA Loc Det Alc CT Exit.then Exit.inBlock Code.wp bodyPost
set_option maxHeartbeats 4000000 in
theorem refReplay_ctn {k : PH} {a : Option Addr} {c : Nat} {bs : List Nat} (h : Sl tU8 k a c bs) (hl : bs.length ≤ 500000) : CTN Tryz.prog 11 #[.slice a bs.length c] k (ReplV bs) := by
  refine ctn_of_body (l := [_]) Tryz.func11 rfl Tryz.ntmps11 (by simp) ReplV.mono fun F hF0 hFm => ?_
  repeat (first | refine cg_seq ?_ | refine cg_region ?_)
  refine rb rfl rfl rfl rfl (a_alloc rfl) ?_; intro b1 k1 hb1 hN1 hle1 hk1
  have hk1 : k1 b1 = some (.cells (noConf.cs none 0 none 0 none 0 none 0).toArray 29 (0, 0)) := hk1
  repeat (first | refine cg_seq ?_ | refine cg_region ?_ | refine rg_nil ?_ | refine eg_then ?_ | refine qsp ?_)
  refine rs rfl rfl (loc_det rfl (d_lit (cells := noConf.cs none 0 none 0 none 0 none 0) rfl rfl rfl)) ?_
  refine rb rfl rfl rfl rfl (a_alloc rfl) ?_; intro b2 k2 hb2 hN2 hle2 hk2
  refine rw1 (vs := noConf.cs none 0 none 0 none 0 none 0) rfl rfl rfl rfl rfl rfl rfl hk2 rfl (.inl hN2) ?_ ?_
  · simp [Conf.cs, Value.oneCell']
  intro k3 ht3 hk3
  have hle3 : Le k1 k3 := ht3 k1 hle2 hb2
  have hb2k : k b2 = none := hle1.none hb2
  repeat (first | refine cg_seq ?_ | refine cg_region ?_ | refine rg_nil ?_ | refine eg_then ?_ | refine qsp ?_ | refine cg_block ?_)
  refine cg_loop (fun (x : Conf × Int) e k' => ∃ a0 c0 a1 c1 a2 c2 a3 c3, 0 ≤ x.2 ∧ x.2 ≤ bs.length ∧ (∀ y m, Repl bs x.1 x.2 y m → Repl bs noConf 0 y m) ∧ x.1.upto x.2.toNat ∧ Le k1 k' ∧ k' b2 = some (.cells (x.1.cs a0 c0 a1 c1 a2 c2 a3 c3).toArray 29 (0, 0)) ∧ OwnL F.w0.heap.size k' x.1 a0 c0 a1 c1 a2 c2 a3 c3 ∧
      e = [(0, .is (.slice a bs.length c)), (2, .is (.pointer (some ⟨b1, 0, none⟩))), (4, .is (.pointer (some ⟨b2, 0, none⟩))), (5, .is (.int .i64 x.2))])
    (fun x => bs.length - x.2.toNat) (noConf, 0) ⟨none, 0, none, 0, none, 0, none, 0, Int.le_refl _, by simp only; omega, fun y m hr => hr, noConf_upto _, hle3, hk3, noOwn _ _, rfl⟩ ⟨rfl, rfl, rfl, rfl, trivial⟩ ?_
  rintro ⟨y, g⟩ e k7 ⟨a0, c0, a1, c1, a2, c2, a3, c3, hg0, hgl, hrep, hyu, hk7, hkb, HO, rfl⟩
  dsimp only at hg0 hgl hrep hyu hkb HO ⊢
  have hyf : y.few := ⟨by have := hyu.1; omega, by have := hyu.2.1; omega, by have := hyu.2.2.1; omega, by have := hyu.2.2.2; omega⟩
  repeat (first | refine cg_seq ?_ | refine cg_region ?_ | refine qsp ?_ | refine cg_block ?_)
  refine rv rfl rfl rfl (loc_call rfl rfl rfl rfl (fun k k' v hle h => h) (refLoad_ct (h.le (hle1.trans hk7)) (by unfold I64; omega) (by omega))) ?_
  rintro k8 hle8 v8 ⟨rfl, hsok⟩
  have hn1 : (loadR bs g).2.2 ≠ 0 → Repl bs y g y g := fun h => .stopL h
  have hn2 : (loadR bs g).2.2 = 0 → (doC y (loadR bs g).1).2 ≠ 0 → Repl bs y g y g := fun h h' => .stopD h h'
  have hn3 : (loadR bs g).2.2 = 0 → (doC y (loadR bs g).1).2 = 0 → ∀ x n, Repl bs (doC y (loadR bs g).1).1 (loadR bs g).2.1 x n → Repl bs y g x n := fun h h' x n h'' => .go h h' h''
  have hnx : (loadR bs g).2.2 = 0 → _ := loadR_next
  generalize loadR bs g = ld at hsok hn1 hn2 hn3 hnx ⊢
  obtain ⟨s, next, e8⟩ := ld
  dsimp only at hsok hn1 hn2 hn3 hnx ⊢
  unfold loadVal
  dsimp only
  have hkb := hle8 _ _ hkb
  have HO := HO.le hle8
  repeat (first | refine qsp ?_)
  refine rb rfl rfl rfl rfl (a_alloc rfl) ?_; intro b9 k9 hb9 hN9 hle9 hk9
  refine rw1 (vs := s.vs) rfl rfl rfl rfl rfl rfl rfl hk9 rfl (.inl hN9) ?_ ?_
  · exact Step.one k s.vs s ⟨rfl, hsok⟩
  intro k10 ht10 hk10
  have hle10 : Le k8 k10 := ht10 k8 hle9 hb9
  have cs := cells_at (vs := s.vs) hk10 rfl
  have hkb := hle10 _ _ hkb
  have HO := HO.le hle10
  have hle710 : Le k1 k10 := hk7.trans (hle8.trans hle10)
  have cy := cells_at (vs := y.cs a0 c0 a1 c1 a2 c2 a3 c3) hkb rfl
  have hk1 : k10 b1 = some (.cells (noConf.cs none 0 none 0 none 0 none 0).toArray 29 (0, 0)) := hle710 _ _ hk1
  repeat (first | refine cg_seq ?_ | refine cg_region ?_ | refine rg_nil ?_ | refine eg_then ?_ | refine qsp ?_)
  cases q1 : (e8 != 0)
  case true =>
    repeat (first | refine cg_seq ?_ | refine cg_region ?_ | refine qsp ?_ | refine qsg ?_ | refine cg_cond_true rfl ?_)
    refine rw1 (vs := y.cs a0 c0 a1 c1 a2 c2 a3 c3) rfl rfl rfl rfl rfl rfl rfl hk1 rfl (.inl hN1) ?_ ?_
    · simp [Conf.cs, Value.oneCell']
    intro k12 ht12 hk12
    have HZ := HO.turn ht12 hk1 (by decide) (by decide) (by decide) (by decide)
    have c12 := cells_at (vs := y.cs a0 c0 a1 c1 a2 c2 a3 c3) hk12 rfl
    repeat (first | refine rg_nil ?_ | refine eg_then ?_ | refine qsp ?_ | refine cg_ret ?_ | refine eg_then_ret ?_ | refine eg_in_ret ?_)
    exact eg_returnC2 rfl rfl rfl rfl c12 rfl ⟨y, g, hrep _ _ (hn1 (by simpa using q1)), doV_mk rfl HZ⟩
  have q1 : e8 = 0 := by simpa using q1
  obtain ⟨_, n1, n2⟩ := hnx q1
  have hyu' := do_upto (s := s) hyu
  obtain ⟨z, hz⟩ : ∃ z, doC y s = z := ⟨_, rfl⟩
  have hdo := refDoes_ctn (s := s) HO.cf hyf hsok
  rw [hz] at hdo hyu' hn2 hn3
  repeat (first | refine cg_seq ?_ | refine cg_region ?_ | refine eg_then ?_ | refine qsg ?_ | refine cg_cond_false rfl ?_ | refine cg_skip ?_)
  refine rvn rfl rfl rfl rfl rfl rfl rfl hdo ?_
  rintro N11 k11 v11 hN11 hnew11 hle11 ⟨d0, f0, d1, f1, d2, f2, d3, f3, rfl, HZ⟩
  have hkb := hle11 _ _ hkb
  have HO := HO.le hle11
  repeat (first | refine qsp ?_)
  refine rb rfl rfl rfl rfl (a_alloc rfl) ?_; intro b13 k13 hb13 hN13 hle13 hk13
  refine rw1 (vs := z.1.cs d0 f0 d1 f1 d2 f2 d3 f3) rfl rfl rfl rfl rfl rfl rfl hk13 rfl (.inl hN13) ?_ ?_
  · simp [Conf.cs, Value.oneCell']
  intro k14 ht14 hk14
  have hle14 : Le k11 k14 := ht14 k11 hle13 hb13
  have hkb := hle14 _ _ hkb
  have HO := HO.le hle14
  have HZ := (HZ.N_le hN11).le hle14
  have hle714 : Le k1 k14 := hle710.trans (hle11.trans hle14)
  have cy := cells_at (vs := y.cs a0 c0 a1 c1 a2 c2 a3 c3) hkb rfl
  have cz := cells_at (vs := z.1.cs d0 f0 d1 f1 d2 f2 d3 f3) hk14 rfl
  repeat (first | refine cg_seq ?_ | refine cg_region ?_ | refine rg_nil ?_ | refine eg_then ?_ | refine qsp ?_)
  cases q2 : (z.2 != 0)
  · have q2' : z.2 = 0 := by simpa using q2
    repeat (first | refine cg_seq ?_ | refine cg_region ?_ | refine eg_then ?_ | refine qsg ?_ | refine cg_cond_false rfl ?_ | refine cg_skip ?_)
    refine rw1 (vs := z.1.cs d0 f0 d1 f1 d2 f2 d3 f3) rfl rfl rfl rfl rfl rfl rfl hkb rfl (.inl hN2) ?_ ?_
    · simp [Conf.cs, Value.oneCell']
    intro k15 ht15 hk15
    have HZ := HZ.turn ht15 hkb (by decide) (by decide) (by decide) (by decide)
    repeat (first | refine cg_region ?_ | refine rg_nil ?_ | refine eg_then ?_ | refine qsp ?_ | refine eg_in_normal ?_)
    refine eg_again (z.1, next) _ ⟨d0, f0, d1, f1, d2, f2, d3, f3, by simp only; omega, n2, fun x n hr => hrep _ _ (hn3 q1 q2' x n hr), ?_, ht15 k1 hle714 hb2, hk15, HZ, rfl⟩ (by simp only; omega) ⟨rfl, rfl, rfl, rfl, trivial⟩
    have e1 : g.toNat + 1 ≤ next.toNat := by omega
    exact ⟨Nat.le_trans hyu'.1 e1, Nat.le_trans hyu'.2.1 e1, Nat.le_trans hyu'.2.2.1 e1, Nat.le_trans hyu'.2.2.2 e1⟩
  · have q2' : ¬ z.2 = 0 := by simpa using q2
    have hk1 : k14 b1 = some (.cells (noConf.cs none 0 none 0 none 0 none 0).toArray 29 (0, 0)) := hle14 _ _ (hle11 _ _ hk1)
    repeat (first | refine cg_seq ?_ | refine cg_region ?_ | refine qsp ?_ | refine qsg ?_ | refine cg_cond_true rfl ?_)
    refine rw1 (vs := y.cs a0 c0 a1 c1 a2 c2 a3 c3) rfl rfl rfl rfl rfl rfl rfl hk1 rfl (.inl hN1) ?_ ?_
    · simp [Conf.cs, Value.oneCell']
    intro k15 ht15 hk15
    have HO := HO.turn ht15 hk1 (by decide) (by decide) (by decide) (by decide)
    have c15 := cells_at (vs := y.cs a0 c0 a1 c1 a2 c2 a3 c3) hk15 rfl
    repeat (first | refine rg_nil ?_ | refine eg_then ?_ | refine qsp ?_ | refine cg_ret ?_ | refine eg_then_ret ?_ | refine eg_in_ret ?_)
    exact eg_returnC2 rfl rfl rfl rfl c15 rfl ⟨y, g, hrep _ _ (hn2 q1 q2'), doV_mk rfl HO⟩
end Go.Wm
namespace Go.Wm
open Go.RowKit Go.Proofs
theorem Row.delV {N : Nat} {k : PH} {et sz : Nat} {u v : Value} {m : Nat} {xs : List Value} (h : Row N k et sz u m xs) (hv : ∀ g, v.ownBlock = some g → g < N) : Row N (Wm.delV k v) et sz u m xs :=
  h.at fun g hg => by
    obtain ⟨hN, _⟩ := h.block hg
    exact delV_of fun hc => by have := hv g hc; omega
theorem Own.delVT {N : Nat} {k : PH} {v u : Value} {l : List Topic} (h : Own tTopic N k 72 u l) (hv : ∀ g, v.ownBlock = some g → g < N) : Own tTopic N (Wm.delV k v) 72 u l := by
  obtain ⟨css, h1, h2⟩ := h
  exact ⟨css, ⟨h1.1, h1.2⟩, h2.delV hv⟩
theorem Own.delVR {N : Nat} {k : PH} {v u : Value} {l : List Rule} (h : Own tRule N k 74 u l) (hv : ∀ g, v.ownBlock = some g → g < N) : Own tRule N (Wm.delV k v) 74 u l := by
  obtain ⟨css, h1, h2⟩ := h
  exact ⟨css, ⟨h1.1, h1.2⟩, h2.delV hv⟩
theorem Own.delVQ {N : Nat} {k : PH} {v u : Value} {l : List Rate} (h : Own tRate N k 76 u l) (hv : ∀ g, v.ownBlock = some g → g < N) : Own tRate N (Wm.delV k v) 76 u l := by
  obtain ⟨css, h1, h2⟩ := h
  exact ⟨css, ⟨h1.1, h1.2⟩, h2.delV hv⟩
theorem Own.delVW {N : Nat} {k : PH} {v u : Value} {l : List Way} (h : Own tWay N k 78 u l) (hv : ∀ g, v.ownBlock = some g → g < N) : Own tWay N (Wm.delV k v) 78 u l := by
  obtain ⟨css, h1, h2⟩ := h
  exact ⟨css, ⟨h1.1, h1.2⟩, h2.delV hv⟩
theorem OwnL.delV {N : Nat} {k : PH} {v : Value} {x : Conf} {a0 : Option Addr} {c0 : Nat} {a1 : Option Addr} {c1 : Nat} {a2 : Option Addr} {c2 : Nat} {a3 : Option Addr} {c3 : Nat} (H : OwnL N k x a0 c0 a1 c1 a2 c2 a3 c3) (hv : ∀ g, v.ownBlock = some g → g < N) : OwnL N (Wm.delV k v) x a0 c0 a1 c1 a2 c2 a3 c3 :=
  ⟨H.t.delVT hv, H.r.delVR hv, H.q.delVQ hv, H.w.delVW hv⟩
theorem Row.turnT {N : Nat} {k k' : PH} {b et et' sz : Nat} {v : Value} {m : Nat} {xs : List Value} {c : Array Value} {fr : Nat × Nat} (h : Row N k et sz v m xs) (ht : Turn1 k k' b) (hb : k b = some (.cells c et' fr)) (hne : et ≠ et') : Row N k' et sz v m xs := by
  obtain ⟨hl, (⟨rfl, rfl⟩ | ⟨g, cap, cur, rfl, hN, hk, h1, h2, h3, h4⟩)⟩ := h
  · exact ⟨hl, .inl ⟨rfl, rfl⟩⟩
  · have hgb : g ≠ b := fun hc => by rw [hc, hb] at hk; cases hk; exact hne rfl
    exact ⟨hl, .inr ⟨g, cap, cur, rfl, hN, turn1_get ht hgb hk, h1, h2, h3, h4⟩⟩
theorem Apart.le {h k : PH} {v : Value} (ha : Apart k v) (hl : Le h k) : Apart h v := fun g hg => hl.none (ha g hg)
theorem Apart.delV (k : PH) (v : Value) : Apart (Wm.delV k v) v := fun g hg => delV_own hg
theorem Row.old {N M : Nat} {k : PH} {et sz : Nat} {v : Value} {m : Nat} {xs : List Value} (h : Row N k et sz v m xs) (hnew : ∀ b, M ≤ b → k b = none) : ∀ g, v.ownBlock = some g → g < M := fun g hg => by
  obtain ⟨_, ob, hob⟩ := h.block hg
  apply Decidable.byContradiction
  intro hc
  rw [hnew g (by omega)] at hob
  cases hob
theorem do_form {x : Conf} {s : Step} (h : (doC x s).2 = 0) : formS s = true := by
  unfold doC at h
  split at h
  · simp at h
  · rename_i h1
    cases q : formS s
    · rw [q] at h1; simp at h1
    · rfl
theorem saveL_le {s : Step} (hok : I64 s.a ∧ I64 s.b ∧ I64 s.c) (h : formS s = true) : 9 ≤ (saveL s).length ∧ (saveL s).length ≤ 187 := by
  have := stepL_len hok h
  rw [saveL_len]; omega
theorem Ran.len {c x : Conf} {l : List Step} (h : Ran c l x) : (l.flatMap saveL).length ≤ 187 * l.length := by
  induction h with
  | nil => simp
  | cons a b c' _ ih =>
    have := saveL_le a b
    simp only [List.flatMap_cons, List.length_append, List.length_cons]; omega
theorem saveL_bytes (s : Step) : Bytes (saveL s) := (bigL_bytes _ _ _).append ((stepL_bytes s).append (bigL_bytes _ _ _))
theorem flat_bytes (l : List Step) : Bytes (l.flatMap saveL) := fun x hx => by
  obtain ⟨s, _, hs⟩ := List.mem_flatMap.1 hx
  exact saveL_bytes s x hs
theorem loadR_end (b : List Nat) : (loadR b (b.length : Int)).2.2 ≠ 0 := by
  have : getR b (b.length : Int) 4 = (0, 10) := by unfold getR; rw [if_neg (by omega), if_pos (by rw [Int.toNat_natCast]; omega)]
  unfold loadR
  rw [this, if_pos (by simp)]
  simp
/-- What steps that were done make of their own bytes. -/
theorem Ran.all {x : Conf} {l : List Step} (h : Ran noConf l x) : Repl (l.flatMap saveL) noConf 0 x ((l.flatMap saveL).length : Int) := by
  have := h.repl [] [] x ((l.flatMap saveL).length : Int) (by
    simp only [List.nil_append, List.append_nil, List.length_nil, Nat.zero_add]
    exact .stopL (loadR_end _))
  simpa using this
end Go.Wm
namespace Go.Wm
open Go.RowKit Go.Proofs Go.ChangeShapes Go.WideShapes
theorem wf_u8 {n : Int} (h : (Lit.int .u8 n).wf = true) : ∃ m : Nat, n = (m : Int) ∧ m < 256 := by
  simp [Lit.wf, IntKind.min, IntKind.max, IntKind.signed, IntKind.bits] at h
  exact ⟨n.toNat, by omega, by omega⟩
theorem rd_u8 {P : Program} {t : TypeId} (h : P.underlying t = some (.int .u8)) (h1 : P.cellsOf t = 1) : Rd P t tU8 where
  one := h1
  rd := fun hr => by
    obtain ⟨n, rfl, _, hw⟩ := DataW.trod_int h hr
    obtain ⟨m, rfl, hm⟩ := wf_u8 hw
    exact ⟨m, rfl, hm⟩
instance : Rd Tryz.prog 5 tU8 := rd_u8 Tryz.underlying5 (by kernel_rfl)
instance : Rd Tryz.prog 22 (tSl tU8) := rd_slice Tryz.underlying22 (by kernel_rfl) (by decide)
theorem garg_u8 {P : Program} {t : TypeId} (ht : P.underlying t = some (.int .u8)) {H : Type} {enc : TypeId × Value → H} {W : World} {base : Nat} {v : Value} {d : DataW H} {p : List MemPlace} (hv : Value.okWide P W .any base t v) (hr : DataW.Trod enc P W 0 (fun _ => true) true t v d p) :
    ∃ x : Nat, v = .int .u8 (x : Int) ∧ x < 256 := by
  obtain ⟨x, rfl⟩ := okWide_int ht hv
  obtain ⟨n, hn⟩ := hr
  obtain ⟨a, e0, hw⟩ := DataW.trod_int ht hn
  simp [Value.cells] at e0
  subst e0
  obtain ⟨m, rfl, hm⟩ := wf_u8 hw.2
  exact ⟨m, rfl, hm⟩
end Go.Wm
namespace Go.Wm
open Go.RowKit Go.Proofs
theorem strOf_inj {xs ys : List Nat} (hx : Bytes xs) (hy : Bytes ys) : strOf xs = strOf ys ↔ xs = ys := by
  constructor
  · intro h
    have h1 : xs.map (·.toUInt8) = ys.map (·.toUInt8) := by
      have := congrArg (fun b : ByteArray => b.data.toList) h
      simpa [strOf] using this
    have h2 := congrArg (List.map UInt8.toNat) h1
    rw [List.map_map, List.map_map] at h2
    have key : ∀ l : List Nat, Bytes l → l.map (UInt8.toNat ∘ fun x => x.toUInt8) = l := fun l hl => by
      conv => rhs; rw [← List.map_id l]
      apply List.map_congr_left
      intro x hxl
      have := hl x hxl
      show (UInt8.ofNat x).toNat = x
      simp; omega
    rwa [key xs hx, key ys hy] at h2
  · rintro rfl; rfl
attribute [local irreducible] RG CG EG WA Loc Det Alc CT Exit.then Exit.inBlock Code.wp bodyPost
theorem r01same_ct {k : PH} {a b : Option Addr} {c d : Nat} {xs ys : List Nat} (hx : Sl tU8 k a c xs) (hy : Sl tU8 k b d ys) : CT Tryz.prog 17 #[.slice a xs.length c, .slice b ys.length d] k (fun _ v => v = .bool (decide (xs = ys))) := by
  refine ct_of_body (l := [_, _]) Tryz.func17 rfl Tryz.ntmps17 (by simp) (fun _ _ _ _ h => h) fun F hF0 hFm => ?_
  repeat (first | refine cg_seq ?_ | refine cg_region ?_ | refine rg_nil ?_ | refine eg_then ?_ | refine qsp ?_)
  refine rs rfl rfl (loc_det rfl (d_bstr hx rfl rfl)) ?_
  repeat (first | refine qsp ?_)
  refine rs rfl rfl (loc_det rfl (d_bstr hy rfl rfl)) ?_
  repeat (first | refine rg_nil ?_ | refine eg_then ?_ | refine qsp ?_ | refine cg_ret ?_)
  refine eg_return rfl rfl ?_
  have := strOf_inj (sl_bytes hx) (sl_bytes hy)
  by_cases h : xs = ys
  · simp [h]
  · simp [h, this]
set_option maxHeartbeats 4000000 in
theorem confReplays_walk {k : PH} {a : Option Addr} {c : Nat} {bs : List Nat} (h : Sl tU8 k a c bs) : CT Tryz.prog 3 #[.slice a bs.length c] k (fun _ v => v = .bool true) := by
  refine ct_of_body (l := [_]) Tryz.func3 rfl Tryz.ntmps3 (by simp) (fun _ _ _ _ h => h) fun F hF0 hFm => ?_
  repeat (first | refine cg_seq ?_ | refine cg_region ?_ | refine rg_nil ?_ | refine eg_then ?_ | refine qsp ?_)
  refine rs rfl rfl (loc_call_is rfl rfl rfl rfl (live_ct)) ?_
  repeat (first | refine cg_seq ?_ | refine cg_region ?_ | refine rg_nil ?_ | refine eg_then ?_ | refine qsp ?_ | refine qsn ?_ | refine cg_cond_false rfl ?_ | refine cg_skip ?_)
  cases q1 : decide ((bs.length : Int) > 3000)
  rotate_left
  · repeat (first | refine cg_seq ?_ | refine cg_region ?_ | refine rg_nil ?_ | refine eg_then ?_ | refine qsp ?_ | refine cg_cond_true rfl ?_ | refine cg_ret ?_ | refine eg_then_ret ?_)
    exact eg_return rfl rfl rfl
  have hl : bs.length ≤ 3000 := by simp at q1; omega
  repeat (first | refine cg_seq ?_ | refine cg_region ?_ | refine eg_then ?_ | refine qsp ?_ | refine cg_cond_false rfl ?_ | refine cg_skip ?_)
  refine rvn rfl rfl rfl rfl rfl rfl rfl (replay_ctn h (by omega)) ?_
  rintro N5 k5 v5 hN5 hnew5 hle5 ⟨x, n, hrx, e0, f0, e1, f1, e2, f2, e3, f3, rfl, HO⟩
  repeat (first | refine qsp ?_)
  refine rb rfl rfl rfl rfl (a_alloc rfl) ?_; intro b6 k6 hb6 hN6 hle6 hk6
  refine rw1 (vs := x.cs e0 f0 e1 f1 e2 f2 e3 f3) rfl rfl rfl rfl rfl rfl rfl hk6 rfl (.inl hN6) ?_ ?_
  · simp [Conf.cs, Value.oneCell']
  intro k7 ht7 hk7
  have hle7 : Le k5 k7 := ht7 k5 hle6 hb6
  have HO := HO.le hle7
  repeat (first | refine cg_seq ?_ | refine cg_region ?_ | refine rg_nil ?_ | refine eg_then ?_ | refine qsp ?_)
  refine rvn rfl rfl rfl rfl rfl rfl rfl (refReplay_ctn (h.le (hle5.trans hle7)) (by omega)) ?_
  rintro N8 k8 v8 hN8 hnew8 hle8 ⟨y, m, hry, g0, h0, g1, h1, g2, h2, g3, h3, rfl, HP⟩
  obtain ⟨rfl, rfl⟩ := hrx.det hry
  have HO := HO.le hle8
  have hk8 := hle8 _ _ hk7
  repeat (first | refine qsp ?_)
  refine rb rfl rfl rfl rfl (a_alloc rfl) ?_; intro b9 k9 hb9 hN9 hle9 hk9
  refine rw1 (vs := x.cs g0 h0 g1 h1 g2 h2 g3 h3) rfl rfl rfl rfl rfl rfl rfl hk9 rfl (.inl hN9) ?_ ?_
  · simp [Conf.cs, Value.oneCell']
  intro k10 ht10 hk10
  have hle10 : Le k8 k10 := ht10 k8 hle9 hb9
  have HO := HO.le hle10
  have HP := HP.le hle10
  have d1 := cells_at (vs := x.cs e0 f0 e1 f1 e2 f2 e3 f3) (hle10 _ _ hk8) rfl
  have d2 := cells_at (vs := x.cs g0 h0 g1 h1 g2 h2 g3 h3) hk10 rfl
  repeat (first | refine cg_seq ?_ | refine cg_region ?_ | refine rg_nil ?_ | refine eg_then ?_ | refine qsp ?_ | refine qsg ?_)
  refine rs rfl rfl (loc_call_is rfl rfl rfl rfl (same_ct HO.cf HP.cf)) ?_
  rw [show decide (x = x) = true from decide_eq_true rfl]
  repeat (first | refine rg_nil ?_ | refine eg_then ?_ | refine qsp ?_ | refine cg_ret ?_)
  rw [show (n == n) = true by simp]
  skip
  exact eg_return rfl rfl rfl
set_option maxHeartbeats 4000000 in
theorem confSaves_walk {k : PH} {cs : List Value} {s : Step} {a : Option Addr} {c : Nat} {bs : List Nat} {p : Int} (hs : tStep.rep k cs s) (_ : s.small) (h : Sl tU8 k a c bs) (hp : I64 p) : CT Tryz.prog 4 #[.agg cs.toArray, .slice a bs.length c, .int .i64 p] k (fun _ v => v = .bool true) := by
  obtain ⟨rfl, hok⟩ := hs
  refine ct_of_body (l := [_, _, _]) Tryz.func4 rfl Tryz.ntmps4 (by simp) (fun _ _ _ _ h => h) fun F hF0 hFm => ?_
  repeat (first | refine cg_seq ?_ | refine cg_region ?_)
  refine rb rfl rfl rfl rfl (a_box rfl rfl) ?_; intro b1 k1 hb1 hN1 hle1 hk1
  have h := h.le hle1
  have c1 := cells_step hk1
  repeat (first | refine cg_seq ?_ | refine cg_region ?_ | refine rg_nil ?_ | refine eg_then ?_ | refine qsp ?_)
  refine rs rfl rfl (loc_call_is rfl rfl rfl rfl (live_ct)) ?_
  repeat (first | refine cg_seq ?_ | refine cg_region ?_ | refine rg_nil ?_ | refine eg_then ?_ | refine qsp ?_ | refine qsn ?_ | refine cg_cond_false rfl ?_ | refine cg_skip ?_)
  cases q1 : decide ((bs.length : Int) > 9000)
  rotate_left
  · repeat (first | refine cg_seq ?_ | refine cg_region ?_ | refine rg_nil ?_ | refine eg_then ?_ | refine qsp ?_ | refine cg_cond_true rfl ?_ | refine cg_ret ?_ | refine eg_then_ret ?_)
    exact eg_return rfl rfl rfl
  have hl : bs.length ≤ 9000 := by simp at q1; omega
  repeat (first | refine cg_seq ?_ | refine cg_region ?_ | refine eg_then ?_ | refine qsg ?_ | refine cg_cond_false rfl ?_ | refine cg_skip ?_)
  refine rvn rfl rfl rfl rfl rfl rfl rfl (save_ctn hok) ?_
  rintro N2 k2 v2 hN2 _ hle2 hV2
  have h := h.le hle2
  have c2 := c1.le hle2
  have key2 : ∃ u e xs a5 c5, v2 = .tuple #[u, .int .i64 e] ∧ u = .slice a5 xs.length c5 ∧ Sl tU8 k2 a5 c5 xs ∧ (xs, e) = if formS s = true then (saveL s, (0 : Int)) else ([], 1) := by
    unfold SaveV at hV2
    split at hV2
    · rename_i q
      obtain ⟨u, rfl, hrow⟩ := hV2
      obtain ⟨a5, c5, rfl, hs5⟩ := hrow.sl ((bigL_bytes _ _ _).append ((stepL_bytes s).append (bigL_bytes _ _ _)))
      exact ⟨_, 0, saveL s, a5, c5, rfl, rfl, hs5, by rw [if_pos q]⟩
    · rename_i q
      exact ⟨_, 1, [], none, 0, hV2, rfl, sl_nilB _, by rw [if_neg q]⟩
  obtain ⟨u, e2, xs, a5, c5, rfl, rfl, hs5, hxe⟩ := key2
  repeat (first | refine cg_seq ?_ | refine cg_region ?_ | refine rg_nil ?_ | refine eg_then ?_ | refine qsp ?_ | refine qsg ?_)
  refine rvn rfl rfl rfl rfl rfl rfl rfl (refSave_ctn hok) ?_
  rintro N3 k3 v3 hN3 _ hle3 hV3
  have h := h.le hle3
  have hs5 := hs5.le hle3
  have key3 : ∃ u e ys a6 c6, v3 = .tuple #[u, .int .i64 e] ∧ u = .slice a6 ys.length c6 ∧ Sl tU8 k3 a6 c6 ys ∧ (ys, e) = if formS s = true then (saveL s, (0 : Int)) else ([], 1) := by
    unfold SaveV at hV3
    split at hV3
    · rename_i q
      obtain ⟨u, rfl, hrow⟩ := hV3
      obtain ⟨a5, c5, rfl, hs5⟩ := hrow.sl ((bigL_bytes _ _ _).append ((stepL_bytes s).append (bigL_bytes _ _ _)))
      exact ⟨_, 0, saveL s, a5, c5, rfl, rfl, hs5, by rw [if_pos q]⟩
    · rename_i q
      exact ⟨_, 1, [], none, 0, hV3, rfl, sl_nilB _, by rw [if_neg q]⟩
  obtain ⟨u, e3, ys, a6, c6, rfl, rfl, hs6, hye⟩ := key3
  obtain ⟨rfl, rfl⟩ : xs = ys ∧ e2 = e3 := by
    have := hxe.trans hye.symm
    exact ⟨congrArg (·.1) this, congrArg (·.2) this⟩
  repeat (first | refine cg_seq ?_ | refine cg_region ?_ | refine rg_nil ?_ | refine eg_then ?_ | refine qsp ?_)
  refine rv rfl rfl rfl (loc_call rfl rfl rfl rfl (fun k k' v hle h => h) (load_ct h hp (by omega))) ?_
  rintro k4 hle4 v4 ⟨rfl, hsok⟩
  obtain ⟨ld, hld⟩ : ∃ ld, loadR bs p = ld := ⟨_, rfl⟩
  obtain ⟨s4, n4, e4⟩ := ld
  rw [hld] at hsok ⊢
  dsimp only at hsok
  unfold loadVal
  dsimp only
  have h := h.le hle4
  have hs5 := hs5.le hle4
  have hs6 := hs6.le hle4
  repeat (first | refine qsp ?_)
  refine rb rfl rfl rfl rfl (a_alloc rfl) ?_; intro b7 k7 hb7 hN7 hle7 hk7
  refine rw1 (vs := s4.vs) rfl rfl rfl rfl rfl rfl rfl hk7 rfl (.inl hN7) ?_ ?_
  · exact Step.one k s4.vs s4 ⟨rfl, hsok⟩
  intro k8 ht8 hk8
  have hle8 : Le k4 k8 := ht8 k4 hle7 hb7
  have h := h.le hle8
  have hs5 := hs5.le hle8
  have hs6 := hs6.le hle8
  have c8 := cells_step hk8
  repeat (first | refine cg_seq ?_ | refine cg_region ?_ | refine rg_nil ?_ | refine eg_then ?_ | refine qsp ?_)
  refine rv rfl rfl rfl (loc_call rfl rfl rfl rfl (fun k k' v hle h => h) (refLoad_ct h hp (by omega))) ?_
  rintro k9 hle9 v9 ⟨rfl, _⟩
  rw [hld]
  unfold loadVal
  dsimp only
  have hk9 := hle9 _ _ hk8
  have hs5 := hs5.le hle9
  have hs6 := hs6.le hle9
  repeat (first | refine qsp ?_)
  refine rb rfl rfl rfl rfl (a_alloc rfl) ?_; intro b10 k10 hb10 hN10 hle10 hk10
  refine rw1 (vs := s4.vs) rfl rfl rfl rfl rfl rfl rfl hk10 rfl (.inl hN10) ?_ ?_
  · exact Step.one k s4.vs s4 ⟨rfl, hsok⟩
  intro k11 ht11 hk11
  have hle11 : Le k9 k11 := ht11 k9 hle10 hb10
  have hs5 := hs5.le hle11
  have hs6 := hs6.le hle11
  have d1 := cells_step (hle11 _ _ hk9)
  have d2 := cells_step hk11
  repeat (first | refine cg_seq ?_ | refine cg_region ?_ | refine rg_nil ?_ | refine eg_then ?_ | refine qsp ?_)
  refine rs rfl rfl (loc_call_is rfl rfl rfl rfl (r01same_ct hs5 hs6)) ?_
  rw [show decide (xs = xs) = true from decide_eq_true rfl]
  repeat (first | refine qsp ?_)
  rw [show (e2 == e2) = true by simp]
  repeat (first | refine qsp ?_ | refine qsg ?_ | refine qsE ?_)
  rw [show decide (s4 = s4) = true from decide_eq_true rfl]
  repeat (first | refine qsp ?_)
  rw [show (n4 == n4) = true by simp]
  repeat (first | refine rg_nil ?_ | refine eg_then ?_ | refine qsp ?_ | refine cg_ret ?_)
  rw [show (e4 == e4) = true by simp]
  skip
  exact eg_return rfl rfl rfl
end Go.Wm
namespace Go.Wm
open Go.RowKit Go.Proofs
attribute [local irreducible] RG CG EG WA Loc Det Alc CT Exit.then Exit.inBlock Code.wp bodyPost
set_option maxHeartbeats 4000000 in
theorem confBack_walk {k : PH} {al : Option Addr} {cl : Nat} {l : List Step} (hl : Sl tStep k al cl l) {B : Prop} (_ : B) : CT Tryz.prog 5 #[.slice al l.length cl] k (fun _ v => v = .bool true) := by
  refine ct_of_body (l := [_]) Tryz.func5 rfl Tryz.ntmps5 (by simp) (fun _ _ _ _ h => h) fun F hF0 hFm => ?_
  have b1' := hl.cap; have b2' := hl.max; unfold maxLen at b2'
  repeat (first | refine cg_seq ?_ | refine cg_region ?_ | refine rg_nil ?_ | refine eg_then ?_ | refine qsp ?_)
  refine rs rfl rfl (loc_call_is rfl rfl rfl rfl (live_ct)) ?_
  repeat (first | refine cg_seq ?_ | refine cg_region ?_ | refine rg_nil ?_ | refine eg_then ?_ | refine qsp ?_ | refine qsn ?_ | refine cg_cond_false rfl ?_ | refine cg_skip ?_)
  cases q1 : decide ((l.length : Int) > 30)
  rotate_left
  · repeat (first | refine cg_seq ?_ | refine cg_region ?_ | refine rg_nil ?_ | refine eg_then ?_ | refine qsp ?_ | refine cg_cond_true rfl ?_ | refine cg_ret ?_ | refine eg_then_ret ?_)
    exact eg_return rfl rfl rfl
  have hl30 : l.length ≤ 30 := by simp at q1; omega
  repeat (first | refine cg_seq ?_ | refine cg_region ?_ | refine eg_then ?_ | refine cg_cond_false rfl ?_ | refine cg_skip ?_)
  refine rs rfl rfl (loc_det rfl (d_lit (cells := noConf.cs none 0 none 0 none 0 none 0) rfl rfl rfl)) ?_
  refine rb rfl rfl rfl rfl (a_alloc rfl) ?_; intro b3 k2 hb3 hN3 hle2 hk2
  refine rw1 (vs := noConf.cs none 0 none 0 none 0 none 0) rfl rfl rfl rfl rfl rfl rfl hk2 rfl (.inl hN3) ?_ ?_
  · simp [Conf.cs, Value.oneCell']
  intro k3 ht3 hk3
  have hle3 : Le k k3 := ht3 k hle2 hb3
  repeat (first | refine cg_seq ?_ | refine cg_region ?_ | refine rg_nil ?_ | refine eg_then ?_ | refine qsp ?_ | refine qsn ?_ | refine cg_block ?_)
  refine cg_loop (fun (i : Nat) e k' => ∃ ss y bs v a0 c0 a1 c1 a2 c2 a3 c3 h, i ≤ l.length ∧ Ran noConf ss y ∧ bs = ss.flatMap saveL ∧ ss.length ≤ i ∧ y.upto i ∧ Le k h ∧ Le h k' ∧ Apart h v ∧ h b3 = some (.cells (y.cs a0 c0 a1 c1 a2 c2 a3 c3).toArray 29 (0, 0)) ∧ OwnL F.w0.heap.size h y a0 c0 a1 c1 a2 c2 a3 c3 ∧ BRow F.w0.heap.size k' v bs ∧
      e = [(3, .is (.pointer (some ⟨b3, 0, none⟩))), (4, .is v), (22, .is (.slice al l.length cl)), (23, .is (.int .i64 (l.length : Int))), (24, .is (.int .i64 (i : Int)))])
    (fun i => l.length - i) 0 ⟨[], noConf, [], .slice none 0 0, none, 0, none, 0, none, 0, none, 0, k3, Nat.zero_le _, .nil, rfl, Nat.le_refl _, noConf_upto _, hle3, Le.refl _, apart_nil _ _ _, hk3, noOwn _ _, row_nil _ _ _ _, rfl⟩ ⟨rfl, rfl, rfl, rfl, rfl, trivial⟩ ?_
  clear hk3 hle3 ht3 k3 hk2 hle2
  rintro i e k4 ⟨ss, y, bs, v, a0, c0, a1, c1, a2, c2, a3, c3, h, hi, hran, hbs, hsl, hyu, hkh, hh4, hap, hh3, HO, hrow, rfl⟩
  have hran' := hran.len
  rw [← hbs] at hran'
  have hbl : bs.length ≤ 5610 := by omega
  have hbb : Bytes bs := by rw [hbs]; exact flat_bytes ss
  repeat (first | refine cg_seq ?_ | refine cg_region ?_ | refine rg_nil ?_ | refine eg_then ?_ | refine qsp ?_)
  refine cg_cond rfl (fun hc => ?_) (fun hc => ?_)
  · have hlt : i < l.length := by simpa using hc
    obtain ⟨bx, ox, cx, rfl, ⟨rfl, hsok⟩, hcx⟩ := (hl.le (hkh.trans hh4)).el i l[i] (List.getElem?_eq_getElem hlt)
    obtain ⟨s, hs⟩ : ∃ s, l[i] = s := ⟨_, rfl⟩
    rw [hs] at hcx hsok
    have hnum : I64 s.a ∧ I64 s.b ∧ I64 s.c := ⟨hsok.2.2.2.1, hsok.2.2.2.2.1, hsok.2.2.2.2.2⟩
    have hyf : y.few := ⟨by have := hyu.1; omega, by have := hyu.2.1; omega, by have := hyu.2.2.1; omega, by have := hyu.2.2.2; omega⟩
    have hyu' := do_upto (s := s) hyu
    repeat (first | refine cg_seq ?_ | refine cg_region ?_ | refine eg_then ?_ | refine qsi ?_ | refine qsg ?_ | refine cg_skip ?_ | refine cg_block ?_)
    refine rb rfl rfl rfl rfl (a_alloc rfl) ?_; intro b6 k5 hb6 hN6 hle5 hk5
    refine rw1 (vs := s.vs) rfl rfl rfl rfl rfl rfl rfl hk5 rfl (.inl hN6) ?_ ?_
    · exact Step.one k s.vs s ⟨rfl, hsok⟩
    intro k6 ht6 hk6
    have hle6 : Le k4 k6 := ht6 k4 hle5 hb6
    have cs6 := cells_step hk6
    have hk63 := hle6 _ _ (hh4 _ _ hh3)
    have cy := cells_at (vs := y.cs a0 c0 a1 c1 a2 c2 a3 c3) hk63 rfl
    obtain ⟨z, hz⟩ : ∃ z, doC y s = z := ⟨_, rfl⟩
    have hdo := do_ctn (s := s) ((HO.le hh4).le hle6).cf hyf hsok
    rw [hz] at hdo hyu'
    repeat (first | refine cg_seq ?_ | refine cg_region ?_ | refine rg_nil ?_ | refine eg_then ?_ | refine qsg ?_)
    refine rvn rfl rfl rfl rfl rfl rfl rfl hdo ?_
    rintro N7 k7 v7 hN7 hnew7 hle7 ⟨d0, f0, d1, f1, d2, f2, d3, f3, rfl, HZ⟩
    have hvold := (hrow.le hle6).old hnew7
    have hb3old : b3 < N7 := by
      apply Decidable.byContradiction; intro hc'
      rw [hnew7 b3 (by omega)] at hk63; cases hk63
    repeat (first | refine qsp ?_)
    refine rb rfl rfl rfl rfl (a_alloc rfl) ?_; intro b8 k8 hb8 hN8 hle8 hk8
    refine rw1 (vs := z.1.cs d0 f0 d1 f1 d2 f2 d3 f3) rfl rfl rfl rfl rfl rfl rfl hk8 rfl (.inl hN8) ?_ ?_
    · simp [Conf.cs, Value.oneCell']
    intro k9 ht9 hk9
    have hle9 : Le k7 k9 := ht9 k7 hle8 hb8
    have hle49 : Le k4 k9 := hle6.trans (hle7.trans hle9)
    have cs9 := cs6.le (hle7.trans hle9)
    have HZ := HZ.le hle9
    repeat (first | refine cg_seq ?_ | refine cg_region ?_ | refine rg_nil ?_ | refine eg_then ?_ | refine qsp ?_)
    cases q2 : (z.2 != 0)
    case true =>
      repeat (first | refine cg_region ?_ | refine rg_nil ?_ | refine eg_then ?_ | refine qsp ?_ | refine qsa ?_ | refine cg_cond_true rfl ?_ | refine cg_exit ?_ | refine eg_then_exit ?_ | refine eg_in_exit ?_)
      refine eg_again (i + 1) _ ⟨ss, y, bs, v, a0, c0, a1, c1, a2, c2, a3, c3, h, hlt, hran, hbs, by omega, ?_, hkh, hh4.trans hle49, hap, hh3, HO, hrow.le hle49, rfl⟩ (by omega) ⟨rfl, rfl, rfl, rfl, rfl, trivial⟩
      exact ⟨Nat.le_succ_of_le hyu.1, Nat.le_succ_of_le hyu.2.1, Nat.le_succ_of_le hyu.2.2.1, Nat.le_succ_of_le hyu.2.2.2⟩
    have q2' : z.2 = 0 := by simpa using q2
    have hform : formS s = true := do_form (x := y) (by rw [hz]; exact q2')
    have hsv := saveL_le hnum hform
    repeat (first | refine cg_seq ?_ | refine cg_region ?_ | refine eg_then ?_ | refine qsg ?_ | refine cg_cond_false rfl ?_ | refine cg_skip ?_)
    refine rvn rfl rfl rfl rfl rfl rfl rfl (save_ctn hsok) ?_
    rintro N10 k10 v10 hN10 hnew10 hle10 hV10
    unfold SaveV at hV10
    rw [if_pos hform] at hV10
    obtain ⟨u, rfl, hrowu⟩ := hV10
    obtain ⟨au, cu, rfl, hsu⟩ := hrowu.sl (saveL_bytes s)
    have hle410 := hle49.trans hle10
    obtain ⟨av, cv, rfl, hsv4⟩ := BRow.sl (hrow.le hle410) hbb
    repeat (first | refine cg_seq ?_ | refine cg_region ?_ | refine rg_nil ?_ | refine eg_then ?_ | refine qsp ?_)
    refine rvn rfl rfl rfl rfl rfl rfl rfl (refCopy_ct hsv4 (by omega)) ?_
    rintro N11 k11 v11 hN11 hnew11 hle11 hrow11
    repeat (first | refine qsp ?_)
    refine rapsB rfl rfl rfl rfl rfl rfl rfl (hrow11.N_le hN11) (hsu.le hle11) (Le.refl _) (by omega) ?_
    intro v12 k12 hrow12 ht12
    obtain ⟨hle12, _⟩ := ht12 k10 hle11 (hrow11.apart hnew11)
    obtain ⟨a12, c12, rfl, hs12⟩ := hrow12.sl (hbb.append (saveL_bytes s))
    have hld := loadR_at hnum hform bs []
    rw [List.append_nil] at hld
    repeat (first | refine qsp ?_ | refine qsn ?_)
    refine rv rfl rfl rfl (loc_call rfl rfl rfl rfl (fun k k' v hle h => h) (load_ct (p := (bs.length : Int)) hs12 (by unfold I64; omega) (by rw [List.length_append]; omega))) ?_
    rintro k13 hle13 v13 ⟨rfl, _⟩
    rw [hld]
    unfold loadVal
    dsimp only
    repeat (first | refine qsp ?_)
    refine rb rfl rfl rfl rfl (a_alloc rfl) ?_; intro b14 k14 hb14 hN14 hle14 hk14
    refine rw1 (vs := s.vs) rfl rfl rfl rfl rfl rfl rfl hk14 rfl (.inl hN14) ?_ ?_
    · exact Step.one k s.vs s ⟨rfl, hsok⟩
    intro k15 ht15 hk15
    have hle15 : Le k13 k15 := ht15 k13 hle14 hb14
    have hle1015 : Le k10 k15 := hle12.trans (hle13.trans hle15)
    have cz := cells_step hk15
    have cs15 := cs9.le (hle10.trans hle1015)
    have cx15 := cells_at (vs := z.1.cs d0 f0 d1 f1 d2 f2 d3 f3) (hle1015 _ _ (hle10 _ _ hk9)) rfl
    have hk15b3 := hle1015 _ _ (hle410 _ _ (hh4 _ _ hh3))
    repeat (first | refine cg_seq ?_ | refine cg_region ?_ | refine rg_nil ?_ | refine eg_then ?_ | refine qsp ?_ | refine qsg ?_ | refine qsX ?_)
    rw [show decide (s = s) = true from decide_eq_true rfl]
    repeat (first | refine rg_nil ?_ | refine eg_then ?_ | refine qsp ?_ | refine qsn ?_ | refine qsa ?_)
    rw [show (((bs.length + (saveL s).length : Nat) : Int) != (bs.length : Int) + ((saveL s).length : Int)) = false by simp]
    repeat (first | refine cg_seq ?_ | refine cg_region ?_ | refine eg_then ?_ | refine qsg ?_ | refine cg_cond_false rfl ?_ | refine cg_skip ?_)
    refine rw1 (vs := z.1.cs d0 f0 d1 f1 d2 f2 d3 f3) rfl rfl rfl rfl rfl rfl rfl hk15b3 rfl (.inl hN3) ?_ ?_
    · simp [Conf.cs, Value.oneCell']
    intro k16 ht16 hk16
    have hle415 : Le k4 k15 := hle410.trans hle1015
    have HZ := (HZ.le (hle10.trans hle1015)).turn ht16 hk15b3 (by decide) (by decide) (by decide) (by decide)
    have hrow16 : BRow F.w0.heap.size k16 _ bs := (hrow.le hle415).turnT ht16 hk15b3 (by decide)
    have hrowu16 : BRow N10 k16 _ (saveL s) := (hrowu.le hle1015).turnT ht16 hk15b3 (by decide)
    obtain ⟨au', cu', eu, hsu16⟩ := hrowu16.sl (saveL_bytes s)
    cases eu
    have hap4 := hap.le hkh
    have hb3v : (Value.slice av bs.length cv).ownBlock ≠ some b3 := fun hc' => by rw [hap b3 hc'] at hh3; cases hh3
    have hkk : Le k k16 := ht16 k (hkh.trans (hh4.trans hle415)) hb3
    repeat (first | refine cg_region ?_ | refine rg_nil ?_ | refine eg_then ?_ | refine qsp ?_)
    refine rapsB rfl rfl rfl rfl rfl rfl rfl hrow16 hsu16 (Le.refl _) (by omega) ?_
    intro v17 k17 hrow17 ht17
    obtain ⟨hle17, hap17⟩ := ht17 (delV k16 _) (delV_le _ _) (Apart.delV _ _)
    repeat (first | refine cg_region ?_ | refine rg_nil ?_ | refine eg_then ?_ | refine qsp ?_ | refine qsa ?_ | refine eg_in_normal ?_)
    refine eg_again (i + 1) _ ⟨ss ++ [s], z.1, bs ++ saveL s, v17, d0, f0, d1, f1, d2, f2, d3, f3, delV k16 (Value.slice av bs.length cv), hlt, ?_, ?_, ?_, hyu', le_delV hkk hap4, hle17, hap17, ?_, (HZ.delV hvold).N_le hN7, hrow17, rfl⟩ (by omega) ⟨rfl, rfl, rfl, rfl, rfl, trivial⟩
    · have := hran.snoc hnum hform (by rw [hz]; exact q2')
      rw [hz] at this; exact this
    · rw [hbs]; simp
    · simp; omega
    · rw [delV_of hb3v]; exact hk16
  · have hil : i = l.length := by simp at hc; omega
    obtain ⟨av, cv, rfl, hsv4⟩ := hrow.sl hbb
    have hall := hran.all
    rw [← hbs] at hall
    repeat (first | refine cg_seq ?_ | refine cg_region ?_ | refine eg_then ?_ | refine qsp ?_ | refine cg_exit ?_ | refine eg_then_exit ?_ | refine eg_in_exit ?_)
    refine rvn rfl rfl rfl rfl rfl rfl rfl (replay_ctn hsv4 (by omega)) ?_
    rintro N5 k5 v5 hN5 hnew5 hle5 ⟨x, n, hrx, e0, f0, e1, f1, e2, f2, e3, f3, rfl, HP⟩
    obtain ⟨rfl, rfl⟩ := hrx.det hall
    repeat (first | refine qsp ?_)
    refine rb rfl rfl rfl rfl (a_alloc rfl) ?_; intro b6 k6 hb6 hN6 hle6 hk6
    refine rw1 (vs := x.cs e0 f0 e1 f1 e2 f2 e3 f3) rfl rfl rfl rfl rfl rfl rfl hk6 rfl (.inl hN6) ?_ ?_
    · simp [Conf.cs, Value.oneCell']
    intro k7 ht7 hk7
    have hle7 : Le k5 k7 := ht7 k5 hle6 hb6
    have HP := HP.le hle7
    have hle47 := hle5.trans hle7
    have HO := (HO.le hh4).le hle47
    have d1 := cells_at (vs := x.cs a0 c0 a1 c1 a2 c2 a3 c3) (hle47 _ _ (hh4 _ _ hh3)) rfl
    have d2 := cells_at (vs := x.cs e0 f0 e1 f1 e2 f2 e3 f3) hk7 rfl
    repeat (first | refine cg_seq ?_ | refine cg_region ?_ | refine rg_nil ?_ | refine eg_then ?_ | refine qsp ?_ | refine qsg ?_)
    refine rs rfl rfl (loc_call_is rfl rfl rfl rfl (same_ct HO.cf HP.cf)) ?_
    rw [show decide (x = x) = true from decide_eq_true rfl]
    repeat (first | refine rg_nil ?_ | refine eg_then ?_ | refine qsp ?_ | refine qsn ?_ | refine cg_ret ?_)
    rw [show ((bs.length : Int) == (bs.length : Int)) = true by simp]
    skip
    exact eg_return rfl rfl rfl
end Go.Wm

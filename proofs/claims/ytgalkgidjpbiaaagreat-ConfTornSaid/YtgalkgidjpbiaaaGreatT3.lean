/-
  ConfTorn, walked. Conditions: that what is handed in reads as data.
-/
import Derived.Test.YtgalkgidjpbiaaaGreatE15
import Derived.Test.YtgalkgidjpbiaaaGreatD7
import Derived.Test.YtgalkgidjpbiaaaGreatV1
import Derived.Test.YtgalkgidjpbiaaaGreatL1
import Derived.Test.YtgalkgidjpbiaaaGreatR1
import Derived.Test.YtgalkgidjpbiaaaGreatC2
set_option linter.all false
namespace Go.Wm
open Go.RowKit Go.Proofs
abbrev iV (n : Int) : List Value := [.int .i64 n]
abbrev IRow (N : Nat) (k : PH) (v : Value) (l : List Int) : Prop := Row N k 3 1 v l.length (l.flatMap iV)
abbrev vBlk (b : Nat) : Value := .slice (some ⟨b, 0, none⟩) 0 0
theorem vBlk_own {b : Nat} : (vBlk b).ownBlock = some b := rfl
theorem apart_blk {q : PH} {b : Nat} (h : q b = none) : Apart q (vBlk b) := fun g hg => by cases hg; exact h
attribute [local irreducible] RG CG EG WA Loc Det Alc CT Exit.then Exit.inBlock Code.wp bodyPost
structure TornS (N : Nat) (k k' : PH) (b7 : Nat) (ss : List Step) (y : Conf) (v8 v9 v10 : Value) (cs : List Conf) (css : List (List Value)) (q : PH) (a0 : Option Addr) (c0 : Nat) (a1 : Option Addr) (c1 : Nat) (a2 : Option Addr) (c2 : Nat) (a3 : Option Addr) (c3 : Nat) : Prop where
  ran : Ran noConf ss y
  all : AllP ss cs
  kq : Le k q
  qk : Le q k'
  q7 : q b7 = none
  at7 : k' b7 = some (.cells (y.cs a0 c0 a1 c1 a2 c2 a3 c3).toArray 29 (0, 0))
  own : OwnL N q y a0 c0 a1 c1 a2 c2 a3 c3
  pcs : Pieces tCf q css cs
  r8 : BRow N k' v8 (ss.flatMap saveL)
  r9 : IRow N k' v9 (endsL ss)
  r10 : Row N k' 29 5 v10 cs.length css.flatten
  ap8 : Apart q v8
  ap9 : Apart q v9
  ap10 : Apart q v10
  n8 : v8.ownBlock ≠ some b7
  n9 : v9.ownBlock ≠ some b7
  n10 : v10.ownBlock ≠ some b7
  d89 : Disj v8 v9
  d810 : Disj v8 v10
  d910 : Disj v9 v10
theorem TornS.le {N : Nat} {k k' k'' : PH} {b7 : Nat} {ss : List Step} {y : Conf} {v8 v9 v10 : Value} {cs : List Conf} {css : List (List Value)} {q : PH} {a0 : Option Addr} {c0 : Nat} {a1 : Option Addr} {c1 : Nat} {a2 : Option Addr} {c2 : Nat} {a3 : Option Addr} {c3 : Nat}
    (H : TornS N k k' b7 ss y v8 v9 v10 cs css q a0 c0 a1 c1 a2 c2 a3 c3) (hl : Le k' k'') : TornS N k k'' b7 ss y v8 v9 v10 cs css q a0 c0 a1 c1 a2 c2 a3 c3 :=
  { H with qk := H.qk.trans hl, at7 := hl _ _ H.at7, r8 := Row.le H.r8 hl, r9 := Row.le H.r9 hl, r10 := Row.le H.r10 hl }
theorem conf_one (x : Conf) (a0 : Option Addr) (c0 : Nat) (a1 : Option Addr) (c1 : Nat) (a2 : Option Addr) (c2 : Nat) (a3 : Option Addr) (c3 : Nat) : ∀ u ∈ x.cs a0 c0 a1 c1 a2 c2 a3 c3, u.oneCell' = true := by simp [Conf.cs, Value.oneCell']
set_option maxHeartbeats 8000000 in
theorem confTorn_walk {k : PH} {al : Option Addr} {cl : Nat} {l : List Step} (hl : Sl tStep k al cl l) {B : Prop} (_ : B) {cut : Int} (hcut : I64 cut) {to' : Nat} (hto : to' < 256) : CT Tryz.prog 6 #[.slice al l.length cl, .int .i64 cut, .int .u8 (to' : Int)] k (fun _ v => v = .bool true) := by
  refine ct_of_body (l := [_, _, _]) Tryz.func6 rfl Tryz.ntmps6 (by simp) (fun _ _ _ _ h => h) fun F hF0 hFm => ?_
  have b1' := hl.cap; have b2' := hl.max; unfold maxLen at b2'
  repeat (first | refine cg_seq ?_ | refine cg_region ?_ | refine rg_nil ?_ | refine eg_then ?_ | refine qsp ?_)
  refine rs rfl rfl (loc_call_is rfl rfl rfl rfl (live_ct)) ?_
  repeat (first | refine cg_seq ?_ | refine cg_region ?_ | refine rg_nil ?_ | refine eg_then ?_ | refine qsp ?_ | refine qsn ?_ | refine cg_cond_false rfl ?_ | refine cg_skip ?_)
  cases q1 : decide ((l.length : Int) > 20)
  case true =>
    repeat (first | refine cg_seq ?_ | refine cg_region ?_ | refine rg_nil ?_ | refine eg_then ?_ | refine qsp ?_ | refine qso ?_ | refine cg_cond_true rfl ?_ | refine cg_ret ?_ | refine eg_then_ret ?_)
    exact eg_return rfl rfl rfl
  have hl20 : l.length ≤ 20 := by simp at q1; omega
  repeat (first | refine rg_nil ?_ | refine eg_then ?_ | refine qsp ?_)
  cases q2 : decide (cut < 0)
  case true =>
    repeat (first | refine cg_seq ?_ | refine cg_region ?_ | refine rg_nil ?_ | refine eg_then ?_ | refine qsp ?_ | refine cg_cond_true rfl ?_ | refine cg_ret ?_ | refine eg_then_ret ?_)
    exact eg_return rfl rfl rfl
  obtain ⟨cutN, rfl⟩ : ∃ m : Nat, cut = (m : Int) := ⟨cut.toNat, by simp at q2; omega⟩
  repeat (first | refine cg_seq ?_ | refine cg_region ?_ | refine eg_then ?_ | refine cg_cond_false rfl ?_ | refine cg_skip ?_)
  refine rs rfl rfl (loc_det rfl (d_lit (cells := noConf.cs none 0 none 0 none 0 none 0) rfl rfl rfl)) ?_
  refine rb rfl rfl rfl rfl (a_alloc rfl) ?_; intro b7 k2 hb7 hN7 hle2 hk2
  refine rw1 (vs := noConf.cs none 0 none 0 none 0 none 0) rfl rfl rfl rfl rfl rfl rfl hk2 rfl (.inl hN7) ?_ ?_
  · simp [Conf.cs, Value.oneCell']
  intro k3 ht3 hk3
  have hle3 : Le k k3 := ht3 k hle2 hb7
  repeat (first | refine cg_seq ?_ | refine cg_region ?_ | refine rg_nil ?_ | refine eg_then ?_ | refine qsp ?_)
  refine rb rfl rfl rfl rfl (a_slice (cells := iV 0) rfl rfl rfl rfl (by kernel_rfl) rfl) ?_; intro b9 k4 hb9 hN9 hle4 hk4
  have cc4 := cells_at (vs := noConf.cs none 0 none 0 none 0 none 0) (hle4 _ _ hk3) rfl
  repeat (first | refine cg_seq ?_ | refine cg_region ?_ | refine rg_nil ?_ | refine eg_then ?_ | refine qsp ?_ | refine qsg ?_)
  refine rb rfl rfl rfl rfl (a_slice (cells := noConf.cs none 0 none 0 none 0 none 0) rfl rfl rfl rfl (by kernel_rfl) rfl) ?_; intro b10 k5 hb10 hN10 hle5 hk5
  repeat (first | refine cg_seq ?_ | refine cg_region ?_ | refine rg_nil ?_ | refine eg_then ?_ | refine qsp ?_ | refine qsn ?_ | refine cg_block ?_)
  have h97 : b9 ≠ b7 := fun hc => by rw [hc, hk3] at hb9; cases hb9
  have h107 : b10 ≠ b7 := fun hc => by rw [hc, hle4 _ _ hk3] at hb10; cases hb10
  have hr9 : IRow F.w0.heap.size k4 (.slice (some ⟨b9, 0, none⟩) 1 1) (endsL []) := row_one hN9 hk4 rfl
  have hinit : TornS F.w0.heap.size k k5 b7 [] noConf (.slice none 0 0) (.slice (some ⟨b9, 0, none⟩) 1 1) (.slice (some ⟨b10, 0, none⟩) 1 1) [noConf] [noConf.cs none 0 none 0 none 0 none 0] k none 0 none 0 none 0 none 0 :=
    { ran := .nil, all := allP_nil, kq := Le.refl _, qk := hle3.trans (hle4.trans hle5), q7 := hb7, at7 := hle5 _ _ (hle4 _ _ hk3), own := noOwn _ _, pcs := Pieces.one ⟨none, 0, none, 0, none, 0, none, 0, rfl, (noOwn F.w0.heap.size _).cf⟩,
      r8 := row_nil _ _ _ _, r9 := Row.le hr9 hle5, r10 := row_one hN10 hk5 rfl, ap8 := apart_nil _ _ _, ap9 := fun g hg => by cases hg; exact hle3.none hb9, ap10 := fun g hg => by cases hg; exact (hle3.trans hle4).none hb10,
      n8 := fun hc => (nomatch hc), n9 := fun hc => by cases hc; exact h97 rfl, n10 := fun hc => by cases hc; exact h107 rfl, d89 := disj_nil _ _ _, d810 := disj_nil _ _ _, d910 := disj_fresh hr9 hb10 }
  skip
  refine cg_loop (fun (i : Nat) e k' => ∃ ss y v8 v9 v10 cs css q a0 c0 a1 c1 a2 c2 a3 c3, i ≤ l.length ∧ ss.length ≤ i ∧ y.upto i ∧ TornS F.w0.heap.size k k' b7 ss y v8 v9 v10 cs css q a0 c0 a1 c1 a2 c2 a3 c3 ∧
      e = [(1, .is (.int .i64 (cutN : Int))), (2, .is (.int .u8 (to' : Int))), (7, .is (.pointer (some ⟨b7, 0, none⟩))), (8, .is v8), (9, .is v9), (10, .is v10), (36, .is (.slice al l.length cl)), (37, .is (.int .i64 (l.length : Int))), (38, .is (.int .i64 (i : Int)))])
    (fun i => l.length - i) 0 ⟨[], noConf, _, _, _, _, _, _, none, 0, none, 0, none, 0, none, 0, Nat.zero_le _, Nat.le_refl _, noConf_upto _, hinit, rfl⟩ ⟨rfl, rfl, rfl, rfl, rfl, rfl, rfl, rfl, rfl, trivial⟩ ?_
  clear hinit hr9 hk5 cc4 hk4 hk3
  rintro i e k4 ⟨ss, y, v8, v9, v10, cs, css, q, a0, c0, a1, c1, a2, c2, a3, c3, hi, hsl, hyu, H, rfl⟩
  have hran' := H.ran.len
  have hbb : Bytes (ss.flatMap saveL) := flat_bytes ss
  repeat (first | refine cg_seq ?_ | refine cg_region ?_ | refine rg_nil ?_ | refine eg_then ?_ | refine qsp ?_)
  refine cg_cond rfl (fun hc => ?_) (fun hc => ?_)
  · have hlt : i < l.length := by simpa using hc
    obtain ⟨bx, ox, cx, rfl, ⟨rfl, hsok⟩, hcx⟩ := (hl.le (H.kq.trans H.qk)).el i l[i] (List.getElem?_eq_getElem hlt)
    obtain ⟨s, hs⟩ : ∃ s, l[i] = s := ⟨_, rfl⟩
    rw [hs] at hcx hsok
    have hnum : I64 s.a ∧ I64 s.b ∧ I64 s.c := ⟨hsok.2.2.2.1, hsok.2.2.2.2.1, hsok.2.2.2.2.2⟩
    have hyf : y.few := ⟨by have := hyu.1; omega, by have := hyu.2.1; omega, by have := hyu.2.2.1; omega, by have := hyu.2.2.2; omega⟩
    have hyu' := do_upto (s := s) hyu
    repeat (first | refine cg_seq ?_ | refine cg_region ?_ | refine eg_then ?_ | refine qsi ?_ | refine qsg ?_ | refine cg_skip ?_ | refine cg_block ?_)
    refine rb rfl rfl rfl rfl (a_alloc rfl) ?_; intro b6 k5 hb6 hN6 hle5 hk5
    refine rw1 (vs := s.vs) rfl rfl rfl rfl rfl rfl rfl hk5 rfl (.inl hN6) ?_ ?_
    · exact Step.one k s.vs s ⟨rfl, hsok⟩
    intro k6 ht6 hk6
    have hle6 : Le k4 k6 := ht6 k4 hle5 hb6
    have cs6 := cells_step hk6
    have hk63 := hle6 _ _ H.at7
    have cy := cells_at (vs := y.cs a0 c0 a1 c1 a2 c2 a3 c3) hk63 rfl
    obtain ⟨z, hz⟩ : ∃ z, doC y s = z := ⟨_, rfl⟩
    have hdo := do_ctn (s := s) ((H.own.le H.qk).le hle6).cf hyf hsok
    rw [hz] at hdo hyu'
    repeat (first | refine cg_seq ?_ | refine cg_region ?_ | refine rg_nil ?_ | refine eg_then ?_ | refine qsg ?_)
    refine rvn rfl rfl rfl rfl rfl rfl rfl hdo ?_
    rintro N7 k7 w7 hNN7 hnew7 hle7 ⟨d0, f0, d1, f1, d2, f2, d3, f3, rfl, HZ⟩
    have ho8 := (Row.le H.r8 hle6).old hnew7
    have ho9 := (Row.le H.r9 hle6).old hnew7
    have ho10 := (Row.le H.r10 hle6).old hnew7
    have hb7old : b7 < N7 := by
      apply Decidable.byContradiction; intro hc'
      rw [hnew7 b7 (by omega)] at hk63; cases hk63
    repeat (first | refine qsp ?_)
    refine rb rfl rfl rfl rfl (a_alloc rfl) ?_; intro b8 k8 hb8 hN8 hle8 hk8
    refine rw1 (vs := z.1.cs d0 f0 d1 f1 d2 f2 d3 f3) rfl rfl rfl rfl rfl rfl rfl hk8 rfl (.inl hN8) ?_ ?_
    · simp [Conf.cs, Value.oneCell']
    intro k9 ht9 hk9
    have hle9 : Le k7 k9 := ht9 k7 hle8 hb8
    have hle49 : Le k4 k9 := hle6.trans (hle7.trans hle9)
    have cs9 := cs6.le (hle7.trans hle9)
    have HZ := HZ.le hle9
    repeat (first | refine cg_seq ?_ | refine cg_region ?_ | refine rg_nil ?_ | refine eg_then ?_ | refine qsp ?_ | refine qsg ?_)
    refine rvn rfl rfl rfl rfl rfl rfl rfl (save_ctn hsok) ?_
    rintro N10 k10 v20 hN10 hnew10 hle10 hV10
    have hle410 := hle49.trans hle10
    have key2 : ∃ u e xs a5 c5, v20 = .tuple #[u, .int .i64 e] ∧ u = .slice a5 xs.length c5 ∧ BRow N10 k10 u xs ∧ (xs, e) = if formS s = true then (saveL s, (0 : Int)) else ([], 1) := by
      unfold SaveV at hV10
      split at hV10
      · rename_i q
        obtain ⟨u, rfl, hrow⟩ := hV10
        obtain ⟨a5, c5, rfl, hs5⟩ := hrow.sl (saveL_bytes s)
        exact ⟨_, 0, saveL s, a5, c5, rfl, rfl, hrow, by rw [if_pos q]⟩
      · rename_i q
        exact ⟨_, 1, [], none, 0, hV10, rfl, row_nil _ _ _ _, by rw [if_neg q]⟩
    obtain ⟨u, e2, xs, a5, c5, rfl, rfl, hrowu, hxe⟩ := key2
    repeat (first | refine cg_seq ?_ | refine cg_region ?_ | refine rg_nil ?_ | refine eg_then ?_ | refine qsp ?_)
    cases q3 : (z.2 == 0)
    · repeat (first | refine cg_region ?_ | refine rg_nil ?_ | refine eg_then ?_ | refine qsp ?_ | refine qsa ?_ | refine qso ?_ | refine cg_cond_false rfl ?_ | refine cg_skip ?_ | refine eg_in_normal ?_)
      refine eg_again (i + 1) _ ⟨ss, y, v8, v9, v10, cs, css, q, a0, c0, a1, c1, a2, c2, a3, c3, hlt, by omega, ?_, H.le hle410, rfl⟩ (by omega) ⟨rfl, rfl, rfl, rfl, rfl, rfl, rfl, rfl, rfl, trivial⟩
      exact ⟨Nat.le_succ_of_le hyu.1, Nat.le_succ_of_le hyu.2.1, Nat.le_succ_of_le hyu.2.2.1, Nat.le_succ_of_le hyu.2.2.2⟩
    have q3' : z.2 = 0 := by simpa using q3
    have hform : formS s = true := do_form (x := y) (by rw [hz]; exact q3')
    have hsv := saveL_le hnum hform
    rw [if_pos hform] at hxe
    obtain ⟨rfl, rfl⟩ : xs = saveL s ∧ e2 = 0 := ⟨congrArg (·.1) hxe, congrArg (·.2) hxe⟩
    repeat (first | refine rg_nil ?_ | refine eg_then ?_ | refine qsp ?_ | refine qsn ?_)
    rw [show decide (((saveL s).length : Int) > 0) = true by simp; omega]
    have cx10 := cells_at (vs := z.1.cs d0 f0 d1 f1 d2 f2 d3 f3) (hle10 _ _ hk9) rfl
    have hk7b := hle410 _ _ H.at7
    have H10 := H.le hle410
    repeat (first | refine cg_seq ?_ | refine cg_region ?_ | refine qsg ?_ | refine cg_cond_true rfl ?_)
    refine rw1 (vs := z.1.cs d0 f0 d1 f1 d2 f2 d3 f3) rfl rfl rfl rfl rfl rfl rfl hk7b rfl (.inl hN7) ?_ ?_
    · simp [Conf.cs, Value.oneCell']
    intro k16 ht16 hk16
    have HZ := (HZ.le hle10).turn ht16 hk7b (by decide) (by decide) (by decide) (by decide)
    have hq16 : Le q k16 := ht16 q H10.qk H.q7
    have r8 : BRow F.w0.heap.size k16 v8 _ := H10.r8.turnB ht16 H.n8
    have r9 : IRow F.w0.heap.size k16 v9 _ := H10.r9.turnB ht16 H.n9
    have r10 := H10.r10.turnB ht16 H.n10
    have hrowu16 : BRow N10 k16 _ (saveL s) := hrowu.turnT ht16 hk7b (by decide)
    obtain ⟨au', cu', eu, hsu16⟩ := hrowu16.sl (saveL_bytes s)
    cases eu
    -- what is known but for the three rows
    obtain ⟨h', hh'⟩ : ∃ h', delV (delV (delV k16 v8) v9) v10 = h' := ⟨_, rfl⟩
    have hh16 : Le h' k16 := by rw [← hh']; exact (delV_le _ _).trans ((delV_le _ _).trans (delV_le _ _))
    have hqh : Le q h' := by rw [← hh']; exact le_delV (le_delV (le_delV hq16 H.ap8) H.ap9) H.ap10
    have hap10 : Apart h' v10 := by rw [← hh']; exact Apart.delV _ _
    have hap9 : Apart h' v9 := by rw [← hh']; exact (Apart.delV _ _).le (delV_le _ _)
    have hap8 : Apart h' v8 := by rw [← hh']; exact (Apart.delV _ _).le ((delV_le _ _).trans (delV_le _ _))
    have HZ' : OwnL N7 h' z.1 d0 f0 d1 f1 d2 f2 d3 f3 := by rw [← hh']; exact ((HZ.delV ho8).delV ho9).delV ho10
    have hh7 : h' b7 = some (.cells (z.1.cs d0 f0 d1 f1 d2 f2 d3 f3).toArray 29 (0, 0)) := by rw [← hh', delV_of H.n10, delV_of H.n9, delV_of H.n8]; exact hk16
    repeat (first | refine cg_seq ?_ | refine cg_region ?_ | refine rg_nil ?_ | refine eg_then ?_ | refine qsp ?_)
    refine rapsB rfl rfl rfl rfl rfl rfl rfl r8 hsu16 (Le.refl _) (by omega) ?_
    intro v17 k17 r17 ht17
    obtain ⟨r9, d89, hle17, hap17⟩ := two_rows ht17 r9 H.d89 hh16 hap8
    obtain ⟨r10, d810, _, _⟩ := two_rows ht17 r10 H.d810 hh16 hap8
    obtain ⟨a17, c17, rfl, hs17⟩ := r17.sl (hbb.append (saveL_bytes s))
    repeat (first | refine cg_seq ?_ | refine cg_region ?_ | refine rg_nil ?_ | refine eg_then ?_ | refine qsp ?_ | refine qsn ?_)
    refine rb rfl rfl rfl rfl (a_slice (cells := iV (((ss.flatMap saveL ++ saveL s).length : Nat) : Int)) rfl rfl rfl rfl (by kernel_rfl) rfl) ?_; intro b18 k18 hb18 hN18 hle18 hk18
    have cn18 := cells_at (vs := iV (((ss.flatMap saveL ++ saveL s).length : Nat) : Int)) hk18 rfl
    refine rap (j := 1) rfl rfl rfl rfl rfl rfl rfl (Row.le r9 hle18) cn18 rfl (by simp [Value.oneCell']) rfl rfl (by unfold maxLen; simp [endsL]; omega) (by simp [endsL]; omega) ?_
    intro v19 k19 r19 ht19
    obtain ⟨r8, d98, hle19, hap19⟩ := two_rows ht19 (Row.le r17 hle18) d89.symm (hle17.trans hle18) hap9
    obtain ⟨r10, d910, _, _⟩ := two_rows ht19 (Row.le r10 hle18) H.d910 (hle17.trans hle18) hap9
    have cz19 := cells_at (vs := z.1.cs d0 f0 d1 f1 d2 f2 d3 f3) (hle19 _ _ hh7) rfl
    repeat (first | refine cg_region ?_ | refine rg_nil ?_ | refine eg_then ?_ | refine qsp ?_ | refine qsg ?_)
    refine rb rfl rfl rfl rfl (a_slice (cells := z.1.cs d0 f0 d1 f1 d2 f2 d3 f3) rfl rfl rfl rfl (by kernel_rfl) rfl) ?_; intro b20 k20 hb20 hN20 hle20 hk20
    have cn20 := cells_at (vs := z.1.cs d0 f0 d1 f1 d2 f2 d3 f3) hk20 rfl
    have hcl := H.all.1
    refine rap (j := 1) rfl rfl rfl rfl rfl rfl rfl (Row.le r10 hle20) cn20 rfl (conf_one _ _ _ _ _ _ _ _ _) rfl rfl (by unfold maxLen; omega) (by omega) ?_
    intro v21 k21 r21 ht21
    obtain ⟨r8, d108, hle21, hap21⟩ := two_rows ht21 (Row.le r8 hle20) d810.symm (hle19.trans hle20) hap10
    obtain ⟨r9, d109, _, _⟩ := two_rows ht21 (Row.le r19 hle20) d910.symm (hle19.trans hle20) hap10
    repeat (first | refine cg_region ?_ | refine rg_nil ?_ | refine eg_then ?_ | refine qsp ?_ | refine qsa ?_ | refine eg_in_normal ?_)
    have hq' : Le q (delV h' (vBlk b7)) := le_delV hqh (apart_blk H.q7)
    have HZ'' : OwnL N7 (delV h' (vBlk b7)) z.1 d0 f0 d1 f1 d2 f2 d3 f3 := HZ'.delV fun g hg => by cases hg; exact hb7old
    have hran2 : Ran noConf (ss ++ [s]) z.1 := by
      have := H.ran.snoc hnum hform (by rw [hz]; exact q3')
      rw [hz] at this; exact this
    refine eg_again (i + 1) _ ⟨ss ++ [s], z.1, _, v19, v21, cs ++ [z.1], css ++ [z.1.cs d0 f0 d1 f1 d2 f2 d3 f3], delV h' (vBlk b7), d0, f0, d1, f1, d2, f2, d3, f3, hlt, by simp; omega, hyu', ?_, rfl⟩ (by omega) ⟨rfl, rfl, rfl, rfl, rfl, rfl, rfl, rfl, rfl, trivial⟩
    refine { ran := hran2, all := H.all.snoc hran2, kq := H.kq.trans hq', qk := (delV_le _ _).trans hle21, q7 := delV_own vBlk_own, at7 := hle21 _ _ hh7, own := HZ''.N_le hNN7, pcs := (H.pcs.le hq').append (Pieces.one ⟨d0, f0, d1, f1, d2, f2, d3, f3, rfl, HZ''.cf⟩),
             r8 := ?_, r9 := ?_, r10 := ?_, ap8 := hap17.le (delV_le _ _), ap9 := hap19.le (delV_le _ _), ap10 := hap21.le (delV_le _ _), n8 := fun hc' => (by rw [hap17 b7 hc'] at hh7; cases hh7), n9 := fun hc' => (by rw [hap19 b7 hc'] at hh7; cases hh7), n10 := fun hc' => (by rw [hap21 b7 hc'] at hh7; cases hh7),
             d89 := d98.symm, d810 := d108.symm, d910 := d109.symm }
    · have e : (ss ++ [s]).flatMap saveL = ss.flatMap saveL ++ saveL s := by simp
      rw [e]; exact r8
    · have e : (ss ++ [s]).flatMap saveL = ss.flatMap saveL ++ saveL s := by simp
      rw [ends_snoc, e]
      unfold IRow
      rw [List.length_append, List.flatMap_append]
      exact r9
    · rw [List.length_append, List.flatten_append]
      simpa using r21
  · have hil : i = l.length := by simp at hc; omega
    obtain ⟨a8, c8, rfl, hs8⟩ := H.r8.sl hbb
    obtain ⟨a9, c9, rfl, hs9⟩ := Row.sl (T := tInt) H.r9 (fun x hx => ⟨rfl, by
      obtain ⟨j, _, rfl⟩ := List.mem_map.1 hx
      have : lenS ss j ≤ (ss.flatMap saveL).length := by
        unfold lenS
        conv => rhs; rw [← List.take_append_drop j ss, List.flatMap_append, List.length_append]
        omega
      unfold I64; omega⟩)
    obtain ⟨a10, c10, rfl, hs10⟩ := H.r10.sls (T := tCf) (H.pcs.le H.qk)
    obtain ⟨bs, hbs⟩ : ∃ bs, ss.flatMap saveL = bs := ⟨_, rfl⟩
    have hlen := lenS_all ss
    rw [hbs] at hlen hbb hs8 hran' ⊢
    have hEl : (endsL ss).length = ss.length + 1 := by simp [endsL]
    have hends : ∃ b9 o9, a9 = some ⟨b9, o9, none⟩ ∧ ∀ j, j ≤ ss.length → Cells k4 b9 (o9 + j * 1) [.int .i64 ((lenS ss j : Nat) : Int)] := by
      have get : ∀ j, j ≤ ss.length → (endsL ss)[j]? = some ((lenS ss j : Nat) : Int) := fun j hj => by
        unfold endsL; rw [List.getElem?_map, List.getElem?_range (by omega)]; rfl
      obtain ⟨b9, o9, _, rfl, _, _⟩ := hs9.el 0 _ (get 0 (by omega))
      refine ⟨b9, o9, rfl, fun j hj => ?_⟩
      obtain ⟨b', o', c', e', ⟨rfl, _⟩, hc'⟩ := hs9.el j _ (get j hj)
      cases e'; exact hc'
    obtain ⟨b9, o9, rfl, hends⟩ := hends
    have hcl := H.all.1
    have hran := H.ran
    have hall2 := H.all.2
    have hkk4 : Le k k4 := H.kq.trans H.qk
    rw [hEl]
    repeat (first | refine cg_seq ?_ | refine cg_region ?_ | refine rg_nil ?_ | refine eg_then ?_ | refine qsp ?_ | refine qsn ?_ | refine cg_exit ?_ | refine eg_then_exit ?_ | refine eg_in_exit ?_)
    cases q4 : ((bs.length : Int) == 0)
    case true =>
      repeat (first | refine cg_seq ?_ | refine cg_region ?_ | refine rg_nil ?_ | refine eg_then ?_ | refine qsp ?_ | refine cg_cond_true rfl ?_ | refine cg_ret ?_ | refine eg_then_ret ?_)
      exact eg_return rfl rfl rfl
    have hpos : 0 < bs.length := Nat.pos_of_ne_zero fun hc' => by rw [hc'] at q4; exact absurd q4 (by decide)
    repeat (first | refine cg_seq ?_ | refine cg_region ?_ | refine eg_then ?_ | refine qsp ?_ | refine qsn ?_ | refine cg_cond_false rfl ?_ | refine cg_skip ?_)
    refine rs rfl rfl (loc_det rfl (d_rem rfl rfl rfl hpos)) ?_
    obtain ⟨m, hm⟩ : ∃ m, cutN % bs.length = m := ⟨_, rfl⟩
    have hmL : m < bs.length := by rw [← hm]; exact Nat.mod_lt _ hpos
    rw [hm]
    repeat (first | refine cg_seq ?_ | refine cg_region ?_ | refine rg_nil ?_ | refine eg_then ?_ | refine qsp ?_ | refine cg_block ?_)
    refine cg_loop (fun (n : Nat) e k' => k' = k4 ∧ n ≤ ss.length ∧ lenS ss n ≤ m ∧ e = [(1, .is (.int .i64 (m : Int))), (2, .is (.int .u8 (to' : Int))), (8, .is (.slice a8 bs.length c8)), (9, .is (.slice (some ⟨b9, o9, none⟩) (ss.length + 1) c9)), (10, .is (.slice a10 cs.length c10)), (17, .is (.int .i64 (n : Int)))])
      (fun n => ss.length - n) 0 ⟨rfl, Nat.zero_le _, by simp [lenS], rfl⟩ ⟨rfl, rfl, rfl, rfl, rfl, rfl, trivial⟩ ?_
    rintro n e k5 ⟨rfl, hn, hnm, rfl⟩
    repeat (first | refine cg_seq ?_ | refine cg_region ?_ | refine qsp ?_ | refine qsn ?_ | refine qsa ?_)
    cases q5 : decide ((n : Int) + 1 < ((ss.length + 1 : Nat) : Int))
    case false =>
      exfalso
      have := of_decide_eq_false q5
      have : n = ss.length := by omega
      subst this
      omega
    have hlt : n < ss.length := by have := of_decide_eq_true q5; omega
    have ce1 := hends (n + 1) (by omega)
    have ce0 := hends n (by omega)
    repeat (first | refine qsp ?_ | refine qsa ?_)
    rw [show (n : Int) + 1 = ((n + 1 : Nat) : Int) by omega]
    repeat (first | refine rg_nil ?_ | refine eg_then ?_ | refine qsp ?_ | refine qsi ?_ | refine qsl ?_)
    cases q6 : decide (((lenS ss (n + 1) : Nat) : Int) ≤ (m : Int))
    case true =>
      have := of_decide_eq_true q6
      repeat (first | refine cg_region ?_ | refine rg_nil ?_ | refine eg_then ?_ | refine qsp ?_ | refine qsa ?_ | refine cg_cond_true rfl ?_ | refine cg_skip ?_ | refine cg_block ?_ | refine eg_in_normal ?_)
      refine eg_again (n + 1) _ ⟨rfl, hlt, by omega, rfl⟩ (by omega) ⟨rfl, rfl, rfl, rfl, rfl, rfl, trivial⟩
    have hnm2 : m < lenS ss (n + 1) := by have := of_decide_eq_false q6; omega
    obtain ⟨cj, hcj⟩ : ∃ x, cs[n]? = some x := ⟨_, List.getElem?_eq_getElem (by omega)⟩
    have hRj := hall2 n cj hcj
    have hT1 := torn_cut hran hlt hRj hnm hnm2
    have hT2 := fun hne => torn_spoilt (b := to') hran hlt hRj hnm hnm2 hto hne
    rw [hbs] at hT1 hT2
    obtain ⟨bx, ox, cj', rfl, ⟨e0, f0, e1, f1, e2, f2, e3, f3, rfl, hCj⟩, hcCj⟩ := hs10.el n cj hcj
    clear ce1
    repeat (first | refine cg_seq ?_ | refine cg_region ?_ | refine eg_then ?_ | refine qsp ?_ | refine cg_cond_false rfl ?_ | refine cg_exit ?_ | refine eg_then_exit ?_ | refine eg_in_exit ?_)
    refine rs rfl rfl (loc_det rfl (d_pre hs8 rfl rfl rfl (by omega))) ?_
    refine rvn rfl rfl rfl rfl rfl rfl rfl (replay_ctn (hs8.take m) (by rw [List.length_take]; omega)) ?_
    rintro N6 k6 v6 hN6 hnew6 hle6 ⟨x, nn, hrx, g0, h0, g1, h1, g2, h2, g3, h3, rfl, HP⟩
    obtain ⟨rfl, rfl⟩ := hrx.det hT1
    repeat (first | refine qsp ?_)
    refine rb rfl rfl rfl rfl (a_alloc rfl) ?_; intro b11 k7 hb11 hN11 hle7 hk7
    refine rw1 (vs := x.cs g0 h0 g1 h1 g2 h2 g3 h3) rfl rfl rfl rfl rfl rfl rfl hk7 rfl (.inl hN11) ?_ ?_
    · simp [Conf.cs, Value.oneCell']
    intro k8 ht8 hk8
    have hle8 : Le k6 k8 := ht8 k6 hle7 hb11
    have hle58 : Le k5 k8 := hle6.trans hle8
    have HP := HP.le hle8
    have hCj8 := hCj.le hle58
    have hs8 := hs8.le hle58
    have ce8 := ce0.le hle58
    have hcCj8 := hcCj.le hle58
    have d1 := cells_at (vs := x.cs g0 h0 g1 h1 g2 h2 g3 h3) hk8 rfl
    repeat (first | refine cg_seq ?_ | refine rg_nil ?_ | refine eg_then ?_ | refine qsp ?_)
    refine cg_any (by kernel_rfl) rfl ?_
    repeat (first | refine qwp ?_ | refine qwi ?_ | refine qwl ?_)
    rw [show (((lenS ss n : Nat) : Int) != ((lenS ss n : Nat) : Int)) = false by simp]
    repeat (first | refine qwp ?_ | refine qwi ?_ | refine qwg ?_)
    refine ws rfl (loc_call_is rfl rfl rfl rfl (same_ct HP.cf hCj8)) ?_
    rw [show decide (x = x) = true from decide_eq_true rfl]
    repeat (first | refine qwp ?_ | (refine wn rfl ?_; refine eg_then ?_))
    repeat (first | refine cg_seq ?_ | refine cg_region ?_ | refine eg_then ?_ | refine qsp ?_ | refine cg_cond_false rfl ?_ | refine cg_skip ?_)
    obtain ⟨b12, o12, ha8, hx2, hcx⟩ := sl_u8 hs8 hmL
    subst ha8
    repeat (first | refine qsp ?_ | refine qsi ?_ | refine qsl ?_)
    refine rs rfl rfl (loc_det rfl (d_cmp rfl rfl rfl rfl)) ?_
    repeat (first | refine rg_nil ?_ | refine eg_then ?_)
    cases q7 : (((bs[m] : Nat) : Int) == (to' : Int))
    case true =>
      repeat (first | refine cg_seq ?_ | refine cg_region ?_ | refine rg_nil ?_ | refine eg_then ?_ | refine qsp ?_ | refine cg_cond_true rfl ?_ | refine cg_ret ?_ | refine eg_then_ret ?_)
      exact eg_return rfl rfl rfl
    have hne : bs[m]? ≠ some to' := by
      rw [List.getElem?_eq_getElem hmL]
      intro hc'
      cases hc'
      simp at q7
    have hT2 := hT2 hne
    repeat (first | refine cg_seq ?_ | refine cg_region ?_ | refine eg_then ?_ | refine qsp ?_ | refine cg_cond_false rfl ?_ | refine cg_skip ?_)
    refine rvn rfl rfl rfl rfl rfl rfl rfl (refCopy_ct hs8 (by omega)) ?_
    rintro N13 k13 v13 hN13 hnew13 hle13 hrow13
    have hrow13' : Row N13 k13 5 1 v13 bs.length (bs.map u8V).flatten := hrow13
    obtain ⟨g, cap, cur, rfl, hgN, hkg, hglt, hcg, hset⟩ := Row.cell (i := m) (j := 0) hrow13' (by simp) (by rw [List.getElem?_map, List.getElem?_eq_getElem hmL]; rfl) (by omega)
    rw [Nat.add_zero, Nat.mul_one] at hglt
    repeat (first | refine cg_seq ?_ | refine cg_region ?_ | refine rg_nil ?_ | refine eg_then ?_ | refine qsp ?_ | refine qsi ?_)
    refine rw0 rfl rfl rfl rfl rfl rfl rfl rfl hkg (show 0 + m * 1 < cur.size by omega) (.inl (Nat.le_trans hN13 hgN)) ?_; intro k14 ht14 hk14
    have hg8 : k8 g = none := hnew13 g hgN
    have hle14 : Le k8 k14 := ht14 k8 hle13 hg8
    have hrow14 := hset k14 (.int .u8 (to' : Int)) ht14 (by rw [hk14]; simp)
    have hrow14 : BRow N13 k14 (.slice (some ⟨g, 0, none⟩) bs.length cap) (bs.set m to') := by
      unfold BRow
      rw [List.length_set]
      have e : ((bs.map u8V).set m ([Value.int .u8 ((bs[m] : Nat) : Int)].set 0 (.int .u8 (to' : Int)))).flatten = (bs.set m to').flatMap u8V := by
        rw [List.flatMap, List.map_set]; rfl
      rw [e] at hrow14
      exact hrow14
    have hbset : Bytes (bs.set m to') := fun y hy => by
      rcases List.mem_or_eq_of_mem_set hy with hy | rfl
      · exact hbb y hy
      · exact hto
    obtain ⟨a15, c15, e15, hs15⟩ := hrow14.sl hbset
    have hsl' : (bs.set m to').length = bs.length := List.length_set
    rw [hsl'] at e15
    cases e15
    have hrp := replay_ctn hs15 (by omega)
    rw [hsl'] at hrp
    repeat (first | refine cg_seq ?_ | refine cg_region ?_ | refine rg_nil ?_ | refine eg_then ?_ | refine qsp ?_)
    refine rvn rfl rfl rfl rfl rfl rfl rfl hrp ?_
    rintro N16 k16 v16 hN16 hnew16 hle16 ⟨y2, nn2, hry, p0, r0, p1, r1, p2, r2, p3, r3, rfl, HQ⟩
    obtain ⟨rfl, rfl⟩ := hry.det hT2
    repeat (first | refine qsp ?_)
    refine rb rfl rfl rfl rfl (a_alloc rfl) ?_; intro b17 k17 hb17 hN17 hle17 hk17
    refine rw1 (vs := y2.cs p0 r0 p1 r1 p2 r2 p3 r3) rfl rfl rfl rfl rfl rfl rfl hk17 rfl (.inl hN17) ?_ ?_
    · simp [Conf.cs, Value.oneCell']
    intro k18 ht18 hk18
    have hle18 : Le k16 k18 := ht18 k16 hle17 hb17
    have hle818 : Le k8 k18 := hle14.trans (hle16.trans hle18)
    have HQ := HQ.le hle18
    have hCj18 := hCj8.le hle818
    have ce18 := ce8.le hle818
    have hcCj18 := hcCj8.le hle818
    have d2 := cells_at (vs := y2.cs p0 r0 p1 r1 p2 r2 p3 r3) hk18 rfl
    repeat (first | refine cg_seq ?_ | refine rg_nil ?_ | refine eg_then ?_ | refine qsp ?_)
    refine cg_any (by kernel_rfl) rfl ?_
    repeat (first | refine qwp ?_ | refine qwi ?_ | refine qwl ?_)
    rw [show (((lenS ss n : Nat) : Int) == ((lenS ss n : Nat) : Int)) = true by simp]
    repeat (first | refine qwp ?_ | refine qwi ?_ | refine qwg ?_)
    refine ws rfl (loc_call_is rfl rfl rfl rfl (same_ct HQ.cf hCj18)) ?_
    rw [show decide (y2 = y2) = true from decide_eq_true rfl]
    repeat (first | refine qwp ?_ | (refine wn rfl ?_; refine eg_then ?_))
    repeat (first | refine cg_ret ?_)
    exact eg_return rfl rfl rfl
end Go.Wm

/-
  The chapter's example, of the program. Conditions: none.
-/
import Derived.Test.YtgalkgidjpbiaaaGreatD7
import Derived.Test.YtgalkgidjpbiaaaGreatR6
import Derived.Test.YtgalkgidjpbiaaaGreatD9
set_option linter.all false
namespace Go.Wm
open Go.RowKit Go.Proofs
attribute [local irreducible] RG CG EG WA Loc Det Alc CT Exit.then Exit.inBlock Code.wp bodyPost
/-- What All hands back. -/
def AllV (r : Conf × Nat × Int) (N : Nat) (k : PH) (v : Value) : Prop := ∃ a0 c0 a1 c1 a2 c2 a3 c3, v = .tuple #[.agg (r.1.cs a0 c0 a1 c1 a2 c2 a3 c3).toArray, .int .i64 (r.2.1 : Int), .int .i64 r.2.2] ∧ OwnL N k r.1 a0 c0 a1 c1 a2 c2 a3 c3
theorem AllV.mono {r : Conf × Nat × Int} : ∀ N k k' v, Le k k' → AllV r N k v → AllV r N k' v := fun N k k' v hle ⟨a0, c0, a1, c1, a2, c2, a3, c3, h1, h2⟩ => ⟨a0, c0, a1, c1, a2, c2, a3, c3, h1, h2.le hle⟩
theorem allV_mk {N : Nat} {k : PH} {r : Conf × Nat × Int} {x : Conf} {n : Nat} {e : Int} {a0 : Option Addr} {c0 : Nat} {a1 : Option Addr} {c1 : Nat} {a2 : Option Addr} {c2 : Nat} {a3 : Option Addr} {c3 : Nat} (h : r = (x, n, e)) (H : OwnL N k x a0 c0 a1 c1 a2 c2 a3 c3) : AllV r N k (.tuple #[.agg (x.cs a0 c0 a1 c1 a2 c2 a3 c3).toArray, .int .i64 (n : Int), .int .i64 e]) := by
  subst h; exact ⟨_, _, _, _, _, _, _, _, rfl, H⟩
theorem all_step {y : Conf} {i : Nat} {l : List Step} (h : i < l.length) : allC y i (l.drop i) = if (doC y l[i]).2 = 0 then allC (doC y l[i]).1 (i + 1) (l.drop (i + 1)) else (noConf, i, (doC y l[i]).2) := by
  rw [List.drop_eq_getElem_cons h, allC]
set_option maxHeartbeats 4000000 in
theorem all_ctn {k : PH} {x : Conf} {a0 : Option Addr} {c0 : Nat} {a1 : Option Addr} {c1 : Nat} {a2 : Option Addr} {c2 : Nat} {a3 : Option Addr} {c3 : Nat} {al : Option Addr} {cl : Nat} {l : List Step} (H : CfAt k x a0 c0 a1 c1 a2 c2 a3 c3) (hf : x.upto 500000) (hl : Sl tStep k al cl l) (hb : l.length ≤ 500000) :
    CTN Tryz.prog 34 #[.agg (x.cs a0 c0 a1 c1 a2 c2 a3 c3).toArray,   .slice al l.length cl] k (AllV (allR x l)) := by
  refine ctn_of_body (l := [_, _]) Tryz.func34 rfl Tryz.ntmps34 (by simp) AllV.mono fun F hF0 hFm => ?_
  have hf0 := hf.1; have hf1 := hf.2.1; have hf2 := hf.2.2.1; have hf3 := hf.2.2.2
  have b1' := hl.cap; have b2' := hl.max; unfold maxLen at b2'
  repeat (first | refine cg_seq ?_ | refine cg_region ?_)
  refine rb rfl rfl rfl rfl (a_box rfl rfl) ?_; intro b2 k2 hb2 hN2 hle2 hk2
  refine rb rfl rfl rfl rfl (a_alloc rfl) ?_; intro b4 k4 hb4 hN4 hle4 hk4
  have hle := hle2.trans hle4
  have H := H.le hle
  have hb4k : k b4 = none := hle2.none hb4
  have cc := (cells_at (vs := x.cs a0 c0 a1 c1 a2 c2 a3 c3) hk2 rfl).le hle4
  repeat (first | refine cg_seq ?_ | refine cg_region ?_ | refine rg_nil ?_ | refine eg_then ?_ | refine qsp ?_ | refine qsg ?_)
  refine rs rfl rfl (loc_call_is rfl rfl rfl rfl (check_ct H)) ?_
  cases q1 : confP x
  · simp only [Bool.false_eq_true, if_false]
    repeat (first | refine cg_seq ?_ | refine cg_region ?_ | refine rg_nil ?_ | refine eg_then ?_ | refine qsp ?_ | refine cg_cond_true rfl ?_)
    refine rs rfl rfl (loc_det rfl (d_lit (cells := noConf.cs none 0 none 0 none 0 none 0) rfl rfl rfl)) ?_
    repeat (first | refine qsp ?_)
    refine rw1 (vs := noConf.cs none 0 none 0 none 0 none 0) rfl rfl rfl rfl rfl rfl rfl hk4 rfl (.inl hN4) ?_ ?_
    · simp [Conf.cs, Value.oneCell']
    intro k9 ht9 hk9
    have c9 := cells_at (vs := noConf.cs none 0 none 0 none 0 none 0) hk9 rfl
    repeat (first | refine rg_nil ?_ | refine eg_then ?_ | refine qsp ?_ | refine cg_ret ?_ | refine eg_then_ret ?_)
    exact eg_returnC3 rfl rfl rfl rfl rfl c9 rfl (allV_mk (n := 0) (by simp [allR, q1]) (noOwn _ _))
  have hall : allR x l = allC x 0 l := by simp [allR, q1]
  simp only [if_true]
  obtain ⟨p0, p1, p2, p3, p4⟩ := Conf.parts cc
  repeat (first | refine cg_seq ?_ | refine cg_region ?_ | refine rg_nil ?_ | refine eg_then ?_ | refine qsp ?_ | refine cg_cond_false rfl ?_ | refine cg_skip ?_)
  refine cg_calls 15 (by kernel_rfl) (by kernel_rfl) rfl rfl ?_
  dsimp only [List.take]
  repeat (first | refine qcl ?_ | refine qcf ?_)
  refine wc_iv rfl (loci_ctn (φ := fun N k v => Own tTopic N k 72 v x.topics) xn_size rfl rfl rfl rfl (Le.refl _) (fun M k k' v hle h => h.le hle) (fun w k hle hs => (cloneTopic_ct H.t (by omega) w k hle hs).mono fun e w' ⟨v, k', h1, h2, h3, h4, css, h5, h6⟩ => ⟨v, k', h1, h2, h3, h4, css, ⟨h5.1, h5.2⟩, h6⟩)) rfl ?_
  repeat (first | refine qcl ?_ | refine qcf ?_)
  refine wc_iv rfl (loci_ctn (φ := fun N k v => Own tRule N k 74 v x.rules) xn_size rfl rfl rfl rfl (Le.refl _) (fun M k k' v hle h => h.le hle) (fun w k hle hs => (cloneRule_ct H.r (by omega) w k hle hs).mono fun e w' ⟨v, k', h1, h2, h3, h4, css, h5, h6⟩ => ⟨v, k', h1, h2, h3, h4, css, ⟨h5.1, h5.2⟩, h6⟩)) rfl ?_
  repeat (first | refine qcl ?_ | refine qcf ?_)
  refine wc_iv rfl (loci_ctn (φ := fun N k v => Own tRate N k 76 v x.rates) xn_size rfl rfl rfl rfl (Le.refl _) (fun M k k' v hle h => h.le hle) (fun w k hle hs => (cloneRate_ct H.q (by omega) w k hle hs).mono fun e w' ⟨v, k', h1, h2, h3, h4, css, h5, h6⟩ => ⟨v, k', h1, h2, h3, h4, css, ⟨h5.1, h5.2⟩, h6⟩)) rfl ?_
  repeat (first | refine qcl ?_ | refine qcf ?_)
  refine wc_iv rfl (loci_ctn (φ := fun N k v => Own tWay N k 78 v x.ways) xn_size rfl rfl rfl rfl (Le.refl _) (fun M k k' v hle h => h.le hle) (fun w k hle hs => (cloneWay_ct H.w (by omega) w k hle hs).mono fun e w' ⟨v, k', h1, h2, h3, h4, css, h5, h6⟩ => ⟨v, k', h1, h2, h3, h4, css, ⟨h5.1, h5.2⟩, h6⟩)) rfl ?_
  refine wc_iv (φ := ConfV x F.w0.heap.size) rfl (LocI.elim 20 rfl (by kernel_rfl) (ConfV.mono _) ?_) rfl ?_
  · rintro v1 k5 hle5 ⟨M1, m1, _, o1⟩
    refine LocI.elim 23 rfl (by kernel_rfl) (ConfV.mono _) ?_
    rintro v2 k6 hle6 ⟨M2, m2, _, o2⟩
    refine LocI.elim 26 rfl (by kernel_rfl) (ConfV.mono _) ?_
    rintro v3 k7 hle7 ⟨M3, m3, _, o3⟩
    refine LocI.elim 29 rfl (by kernel_rfl) (ConfV.mono _) ?_
    rintro v4 k8 hle8 ⟨M4, m4, _, o4⟩
    obtain ⟨a0, c0, rfl, _⟩ := o1.sl
    obtain ⟨a1, c1, rfl, _⟩ := o2.sl
    obtain ⟨a2, c2, rfl, _⟩ := o3.sl
    obtain ⟨a3, c3, rfl, _⟩ := o4.sl
    refine LocI.of (loc_isv (loc_det rfl (d_lit (cells := x.cs a0 c0 a1 c1 a2 c2 a3 c3) rfl rfl rfl)) rfl (ConfV.mono _) fun k9 hle9 => ?_)
    exact ⟨a0, c0, a1, c1, a2, c2, a3, c3, rfl, (o1.le (hle6.trans (hle7.trans (hle8.trans hle9)))).N_le m1, (o2.le (hle7.trans (hle8.trans hle9))).N_le m2, (o3.le (hle8.trans hle9)).N_le m3, (o4.le hle9).N_le m4⟩
  refine wc_nil ?_
  intro k5 vs hle5 hvs
  obtain ⟨a0, c0, a1, c1, a2, c2, a3, c3, ev, HO⟩ := hvs 30 _ rfl
  clear hvs
  dsimp only [List.drop]
  simp only [nameE, nameP]
  rw [ev]
  refine rw1 (vs := x.cs a0 c0 a1 c1 a2 c2 a3 c3) rfl rfl rfl rfl rfl rfl rfl (hle5 _ _ hk4) rfl (.inl hN4) ?_ ?_
  · simp [Conf.cs, Value.oneCell']
  intro k6 ht6 hk6
  have HO := HO.turn ht6 (hle5 _ _ hk4) (by decide) (by decide) (by decide) (by decide)
  have hle6 : Le k k6 := ht6 k (hle.trans hle5) hb4k
  repeat (first | refine cg_seq ?_ | refine cg_region ?_ | refine rg_nil ?_ | refine eg_then ?_ | refine qsp ?_ | refine qsn ?_ | refine cg_block ?_)
  refine cg_loop (fun (i : Nat) e k' => ∃ y a0 c0 a1 c1 a2 c2 a3 c3, i ≤ l.length ∧ allC x 0 l = allC y i (l.drop i) ∧ y.upto (500000 + i) ∧ Le k k' ∧ k' b4 = some (.cells (y.cs a0 c0 a1 c1 a2 c2 a3 c3).toArray 29 (0, 0)) ∧ OwnL F.w0.heap.size k' y a0 c0 a1 c1 a2 c2 a3 c3 ∧
      e = [(1, .is (.slice al l.length cl)), (4, .is (.pointer (some ⟨b4, 0, none⟩))), (31, .is (.slice al l.length cl)), (32, .is (.int .i64 (l.length : Int))), (33, .is (.int .i64 (i : Int)))])
    (fun i => l.length - i) 0 ⟨x, a0, c0, a1, c1, a2, c2, a3, c3, Nat.zero_le _, by simp, by simpa using hf, hle6, hk6, HO, rfl⟩ ⟨rfl, rfl, rfl, rfl, rfl, trivial⟩ ?_
  rintro i e k7 ⟨y, a0, c0, a1, c1, a2, c2, a3, c3, hi, hal, hyu, hk7, hkb, HO, rfl⟩
  repeat (first | refine cg_seq ?_ | refine cg_region ?_ | refine rg_nil ?_ | refine eg_then ?_ | refine qsp ?_)
  refine cg_cond rfl (fun h => ?_) (fun h => ?_)
  · have hlt : i < l.length := by simpa using h
    rw [all_step hlt] at hal
    obtain ⟨bx, ox, cx, ea, ⟨ecx, hsok⟩, hcx⟩ := (hl.le hk7).el i l[i] (List.getElem?_eq_getElem hlt)
    subst ecx
    subst ea
    obtain ⟨s, hs⟩ : ∃ s, l[i] = s := ⟨_, rfl⟩
    rw [hs] at hcx hsok hal
    have hyu' := do_upto (s := s) hyu
    have hyf : y.few := ⟨by have := hyu.1; omega, by have := hyu.2.1; omega, by have := hyu.2.2.1; omega, by have := hyu.2.2.2; omega⟩
    obtain ⟨z, hz⟩ : ∃ z, doC y s = z := ⟨_, rfl⟩
    have hdo := do_ctn (s := s) HO.cf hyf hsok
    rw [hz] at hal hyu'
    repeat (first | refine cg_seq ?_ | refine cg_region ?_ | refine eg_then ?_ | refine qsp ?_ | refine qsi ?_ | refine qsg ?_ | refine cg_skip ?_ | refine cg_block ?_)
    refine rb rfl rfl rfl rfl (a_alloc rfl) ?_; intro b9 k9 hb9 hN9 hle9 hk9
    repeat (first | refine qsp ?_)
    refine rw1 (vs := s.vs) rfl rfl rfl rfl rfl rfl rfl hk9 rfl (.inl hN9) ?_ ?_
    · exact Step.one k s.vs s ⟨rfl, hsok⟩
    intro k10 ht10 hk10
    have hle10 : Le k7 k10 := ht10 k7 hle9 hb9
    have cs := cells_at (vs := s.vs) hk10 rfl
    have cy := cells_at (vs := y.cs a0 c0 a1 c1 a2 c2 a3 c3) (hle10 _ _ hkb) rfl
    have hdo := do_ctn (s := s) (HO.le hle10).cf hyf hsok
    rw [hz] at hdo
    repeat (first | refine cg_seq ?_ | refine cg_region ?_ | refine rg_nil ?_ | refine eg_then ?_ | refine qsg ?_)
    refine rvn rfl rfl rfl rfl rfl rfl rfl hdo ?_
    rintro N11 k11 v11 hN11 hnew11 hle11 ⟨a0, c0, a1, c1, a2, c2, a3, c3, rfl, HZ⟩
    have hkb := hle11 _ _ (hle10 _ _ hkb)
    repeat (first | refine qsp ?_)
    refine rw1 (vs := z.1.cs a0 c0 a1 c1 a2 c2 a3 c3) rfl rfl rfl rfl rfl rfl rfl hkb rfl (.inl hN4) ?_ ?_
    · simp [Conf.cs, Value.oneCell']
    intro k12 ht12 hk12
    have HZ := (HZ.N_le hN11).turn ht12 hkb (by decide) (by decide) (by decide) (by decide)
    have hle12 : Le k k12 := ht12 k (hk7.trans (hle10.trans hle11)) hb4k
    repeat (first | refine cg_seq ?_ | refine cg_region ?_ | refine rg_nil ?_ | refine eg_then ?_ | refine qsp ?_)
    cases q2 : (z.2 != 0)
    · have q2' : z.2 = 0 := by simpa using q2
      rw [if_pos q2'] at hal
      repeat (first | refine cg_region ?_ | refine rg_nil ?_ | refine eg_then ?_ | refine qsp ?_ | refine qsa ?_ | refine cg_cond_false rfl ?_ | refine cg_skip ?_ | refine eg_in_normal ?_)
      exact eg_again (i + 1) _ ⟨z.1, a0, c0, a1, c1, a2, c2, a3, c3, hlt, hal, hyu', hle12, hk12, HZ, rfl⟩ (by omega) ⟨rfl, rfl, rfl, rfl, rfl, trivial⟩
    · have q2' : ¬ z.2 = 0 := by simpa using q2
      rw [if_neg q2'] at hal
      repeat (first | refine cg_seq ?_ | refine cg_region ?_ | refine cg_cond_true rfl ?_)
      refine rs rfl rfl (loc_det rfl (d_lit (cells := noConf.cs none 0 none 0 none 0 none 0) rfl rfl rfl)) ?_
      repeat (first | refine qsp ?_)
      refine rw1 (vs := noConf.cs none 0 none 0 none 0 none 0) rfl rfl rfl rfl rfl rfl rfl hk12 rfl (.inl hN4) ?_ ?_
      · simp [Conf.cs, Value.oneCell']
      intro k13 ht13 hk13
      have c13 := cells_at (vs := noConf.cs none 0 none 0 none 0 none 0) hk13 rfl
      repeat (first | refine rg_nil ?_ | refine eg_then ?_ | refine qsp ?_ | refine cg_ret ?_ | refine eg_then_ret ?_ | refine eg_in_ret ?_)
      exact eg_returnC3 rfl rfl rfl rfl rfl c13 rfl (allV_mk (hall.trans hal) (noOwn _ _))
  · have hil : i = l.length := by simp at h; omega
    rw [hil, List.drop_length] at hal
    have cy := cells_at (vs := y.cs a0 c0 a1 c1 a2 c2 a3 c3) hkb rfl
    repeat (first | refine cg_seq ?_ | refine cg_region ?_ | refine eg_then ?_ | refine qsp ?_ | refine qsn ?_ | refine qsg ?_ | refine cg_exit ?_ | refine eg_then_exit ?_ | refine eg_in_exit ?_)
    refine rw1 (vs := y.cs a0 c0 a1 c1 a2 c2 a3 c3) rfl rfl rfl rfl rfl rfl rfl hkb rfl (.inl hN4) ?_ ?_
    · simp [Conf.cs, Value.oneCell']
    intro k8 ht8 hk8
    have c8 := cells_at (vs := y.cs a0 c0 a1 c1 a2 c2 a3 c3) hk8 rfl
    repeat (first | refine rg_nil ?_ | refine eg_then ?_ | refine qsp ?_ | refine cg_ret ?_)
    exact eg_returnC3 rfl rfl rfl rfl rfl c8 rfl (allV_mk (hall.trans hal) (HO.turn ht8 hkb (by decide) (by decide) (by decide) (by decide)))
end Go.Wm
namespace Go.Wm
open Go.RowKit Go.Proofs
def txT : ByteArray := ⟨#[116]⟩
def txMe : ByteArray := ⟨#[109, 101]⟩
def txNo : ByteArray := ⟨#[]⟩
def exL : List Step := [⟨1, txT, txNo, 2, 0, 0⟩, ⟨7, txNo, txT, 0, 1, 0⟩, ⟨5, txMe, txT, 1, 0, 0⟩]
def exC : Conf := ⟨3, [⟨txT, 2, false, 0⟩], [⟨txMe, txT, 1⟩], [], [⟨0, 1, txT⟩]⟩
def exX : Conf := ⟨4, [], [], [], []⟩
set_option maxRecDepth 100000 in
theorem ex_all : allR noConf exL = (exC, 3, 0) := by decide +kernel
theorem ex_do : doC exC ⟨2, txT, txNo, 0, 0, 0⟩ = (exX, 0) := by decide +kernel
theorem ex_goes : goesQ exC ⟨0, 1, txT⟩ = true := by decide +kernel
theorem ex_may : mayQ exC txMe txT 1 = true := by decide +kernel
theorem exL_ok : ∀ s ∈ exL, s.ok := by
  intro s hs
  simp only [exL, List.mem_cons, List.not_mem_nil, or_false] at hs
  rcases hs with rfl | rfl | rfl <;> exact ⟨by unfold I64; decide, by decide, by decide, by unfold I64; decide, by unfold I64; decide, by unfold I64; decide⟩
end Go.Wm
namespace Go.Wm
open Go.RowKit Go.Proofs
attribute [local irreducible] RG CG EG WA Loc Det Alc CT Exit.then Exit.inBlock Code.wp bodyPost
theorem noCf (k : PH) : CfAt k noConf none 0 none 0 none 0 none 0 := (noOwn 0 k).cf
set_option maxHeartbeats 4000000 in
theorem live_ct {k : PH} : CT Tryz.prog 9 #[] k (fun _ v => v = .bool true) := by
  refine ct_of_body (l := []) Tryz.func9 rfl Tryz.ntmps9 (by simp) (fun _ _ _ _ h => h) fun F hF0 hFm => ?_
  repeat (first | refine cg_seq ?_ | refine cg_region ?_ | refine rg_nil ?_ | refine eg_then ?_ | refine qsp ?_ | refine qsn ?_ | refine qsa ?_ | refine qss ?_ | refine qsi ?_ | refine qsz ?_ | refine qsl ?_ | refine qsg ?_ | refine qsf ?_ | refine qsd ?_ | refine qsE ?_ | refine qsX ?_ | refine qse ?_ | refine qsx ?_ | refine qso ?_ | refine cg_cond_true rfl ?_ | refine cg_cond_false rfl ?_ | refine cg_skip ?_ | refine cg_block ?_ | refine eg_in_normal ?_ | refine cg_ret ?_ | refine eg_then_ret ?_ | refine eg_in_ret ?_ | refine cg_exit ?_ | refine eg_then_exit ?_ | refine eg_in_exit ?_ | refine eg_in_other rfl ?_)
  refine rs rfl rfl (loc_det rfl (d_lit (cells := noConf.cs none 0 none 0 none 0 none 0) rfl rfl rfl)) ?_
  refine rs rfl rfl (loc_det rfl (d_lit (cells := (⟨1, txT, txNo, 2, 0, 0⟩ : Step).vs) rfl rfl rfl)) ?_
  refine rs rfl rfl (loc_det rfl (d_lit (cells := (⟨7, txNo, txT, 0, 1, 0⟩ : Step).vs) rfl rfl rfl)) ?_
  refine rs rfl rfl (loc_det rfl (d_lit (cells := (⟨5, txMe, txT, 1, 0, 0⟩ : Step).vs) rfl rfl rfl)) ?_
  refine rb rfl rfl rfl rfl (a_slice (cells := exL.flatMap Step.vs) rfl rfl rfl rfl (by kernel_rfl) rfl) ?_; intro b1 k1 hb1 hN1 hle1 hk1
  have hsl : Sl tStep k1 (some ⟨b1, 0, none⟩) 3 exL := sl_flat (xs := exL) hk1 rfl (fun x hx => ⟨rfl, exL_ok x hx⟩) (by simp [maxLen, exL])
  refine rvn rfl rfl rfl rfl rfl rfl rfl (all_ctn (l := exL) (noCf k1) (noConf_upto _) hsl (by decide)) ?_
  rintro N2 k2 v2 hN2 hnew2 hle2 ⟨a0, c0, a1, c1, a2, c2, a3, c3, rfl, HO⟩
  rw [ex_all] at HO ⊢
  repeat (first | refine cg_seq ?_ | refine cg_region ?_ | refine rg_nil ?_ | refine eg_then ?_ | refine qsp ?_ | refine qsn ?_ | refine qsa ?_ | refine qss ?_ | refine qsi ?_ | refine qsz ?_ | refine qsl ?_ | refine qsg ?_ | refine qsf ?_ | refine qsd ?_ | refine qsE ?_ | refine qsX ?_ | refine qse ?_ | refine qsx ?_ | refine qso ?_ | refine cg_cond_true rfl ?_ | refine cg_cond_false rfl ?_ | refine cg_skip ?_ | refine cg_block ?_ | refine eg_in_normal ?_ | refine cg_ret ?_ | refine eg_then_ret ?_ | refine eg_in_ret ?_ | refine cg_exit ?_ | refine eg_then_exit ?_ | refine eg_in_exit ?_ | refine eg_in_other rfl ?_)
  refine rb rfl rfl rfl rfl (a_alloc rfl) ?_; intro b3 k3 hb3 hN3 hle3 hk3
  refine rw1 (vs := exC.cs a0 c0 a1 c1 a2 c2 a3 c3) rfl rfl rfl rfl rfl rfl rfl hk3 rfl (.inl hN3) ?_ ?_
  · simp [Conf.cs, Value.oneCell']
  intro k4 ht4 hk4
  have hle4 : Le k2 k4 := ht4 k2 hle3 hb3
  have H4 := (HO.le hle4).cf
  have c4 := cells_at (vs := exC.cs a0 c0 a1 c1 a2 c2 a3 c3) hk4 rfl
  repeat (first | refine cg_seq ?_ | refine cg_region ?_ | refine rg_nil ?_ | refine eg_then ?_ | refine qsp ?_ | refine qsn ?_ | refine qsa ?_ | refine qss ?_ | refine qsi ?_ | refine qsz ?_ | refine qsl ?_ | refine qsg ?_ | refine qsf ?_ | refine qsd ?_ | refine qsE ?_ | refine qsX ?_ | refine qse ?_ | refine qsx ?_ | refine qso ?_ | refine cg_cond_true rfl ?_ | refine cg_cond_false rfl ?_ | refine cg_skip ?_ | refine cg_block ?_ | refine eg_in_normal ?_ | refine cg_ret ?_ | refine eg_then_ret ?_ | refine eg_in_ret ?_ | refine cg_exit ?_ | refine eg_then_exit ?_ | refine eg_in_exit ?_ | refine eg_in_other rfl ?_)
  refine rs rfl rfl (loc_det rfl (d_lit (cells := (⟨2, txT, txNo, 0, 0, 0⟩ : Step).vs) rfl rfl rfl)) ?_
  refine rvn rfl rfl rfl rfl rfl rfl rfl (do_ctn (s := ⟨2, txT, txNo, 0, 0, 0⟩) H4 ⟨by decide, by decide, by decide, by decide⟩ ⟨by unfold I64; decide, by decide, by decide, by unfold I64; decide, by unfold I64; decide, by unfold I64; decide⟩) ?_
  rintro N5 k5 v5 hN5 hnew5 hle5 ⟨e0, f0, e1, f1, e2, f2, e3, f3, rfl, HX⟩
  rw [ex_do] at HX ⊢
  repeat (first | refine cg_seq ?_ | refine cg_region ?_ | refine rg_nil ?_ | refine eg_then ?_ | refine qsp ?_ | refine qsn ?_ | refine qsa ?_ | refine qss ?_ | refine qsi ?_ | refine qsz ?_ | refine qsl ?_ | refine qsg ?_ | refine qsf ?_ | refine qsd ?_ | refine qsE ?_ | refine qsX ?_ | refine qse ?_ | refine qsx ?_ | refine qso ?_ | refine cg_cond_true rfl ?_ | refine cg_cond_false rfl ?_ | refine cg_skip ?_ | refine cg_block ?_ | refine eg_in_normal ?_ | refine cg_ret ?_ | refine eg_then_ret ?_ | refine eg_in_ret ?_ | refine cg_exit ?_ | refine eg_then_exit ?_ | refine eg_in_exit ?_ | refine eg_in_other rfl ?_)
  refine rb rfl rfl rfl rfl (a_alloc rfl) ?_; intro b6 k6 hb6 hN6 hle6 hk6
  refine rw1 (vs := exX.cs e0 f0 e1 f1 e2 f2 e3 f3) rfl rfl rfl rfl rfl rfl rfl hk6 rfl (.inl hN6) ?_ ?_
  · simp [Conf.cs, Value.oneCell']
  intro k7 ht7 hk7
  have hle7 : Le k5 k7 := ht7 k5 hle6 hb6
  have H7 := H4.le (hle5.trans hle7)
  have c4 := c4.le (hle5.trans hle7)
  have c7 := cells_at (vs := exX.cs e0 f0 e1 f1 e2 f2 e3 f3) hk7 rfl
  have hg := goes_ct H7 ⟨0, 1, txT⟩
  rw [ex_goes] at hg
  have hm := may_ct H7 txMe txT 1
  rw [ex_may] at hm
  repeat (first | refine cg_seq ?_ | refine cg_region ?_ | refine rg_nil ?_ | refine eg_then ?_ | refine qsp ?_ | refine qsn ?_ | refine qsa ?_ | refine qss ?_ | refine qsi ?_ | refine qsz ?_ | refine qsl ?_ | refine qsg ?_ | refine qsf ?_ | refine qsd ?_ | refine qsE ?_ | refine qsX ?_ | refine qse ?_ | refine qsx ?_ | refine qso ?_ | refine cg_cond_true rfl ?_ | refine cg_cond_false rfl ?_ | refine cg_skip ?_ | refine cg_block ?_ | refine eg_in_normal ?_ | refine cg_ret ?_ | refine eg_then_ret ?_ | refine eg_in_ret ?_ | refine cg_exit ?_ | refine eg_then_exit ?_ | refine eg_in_exit ?_ | refine eg_in_other rfl ?_)
  refine rs rfl rfl (loc_call_is rfl rfl rfl rfl (hg)) ?_
  repeat (first | refine cg_seq ?_ | refine cg_region ?_ | refine rg_nil ?_ | refine eg_then ?_ | refine qsp ?_ | refine qsn ?_ | refine qsa ?_ | refine qss ?_ | refine qsi ?_ | refine qsz ?_ | refine qsl ?_ | refine qsg ?_ | refine qsf ?_ | refine qsd ?_ | refine qsE ?_ | refine qsX ?_ | refine qse ?_ | refine qsx ?_ | refine qso ?_ | refine cg_cond_true rfl ?_ | refine cg_cond_false rfl ?_ | refine cg_skip ?_ | refine cg_block ?_ | refine eg_in_normal ?_ | refine cg_ret ?_ | refine eg_then_ret ?_ | refine eg_in_ret ?_ | refine cg_exit ?_ | refine eg_then_exit ?_ | refine eg_in_exit ?_ | refine eg_in_other rfl ?_)
  refine rs rfl rfl (loc_call_is rfl rfl rfl rfl (hm)) ?_
  obtain ⟨p0, p1, p2, p3, p4⟩ := Conf.parts c7
  have z1 : exX.ways.length = 0 := rfl
  have z2 : exX.rules.length = 0 := rfl
  have z3 : exX.topics.length = 0 := rfl
  repeat (first | refine cg_seq ?_ | refine cg_region ?_ | refine rg_nil ?_ | refine eg_then ?_ | refine qsp ?_ | refine qsn ?_ | refine qsa ?_ | refine qss ?_ | refine qsi ?_ | refine qsz ?_ | refine qsl ?_ | refine qsg ?_ | refine qsf ?_ | refine qsd ?_ | refine qsE ?_ | refine qsX ?_ | refine qse ?_ | refine qsx ?_ | refine qso ?_ | refine cg_cond_true rfl ?_ | refine cg_cond_false rfl ?_ | refine cg_skip ?_ | refine cg_block ?_ | refine eg_in_normal ?_ | refine cg_ret ?_ | refine eg_then_ret ?_ | refine eg_in_ret ?_ | refine cg_exit ?_ | refine eg_then_exit ?_ | refine eg_in_exit ?_ | refine eg_in_other rfl ?_)
  exact eg_return rfl rfl rfl
end Go.Wm

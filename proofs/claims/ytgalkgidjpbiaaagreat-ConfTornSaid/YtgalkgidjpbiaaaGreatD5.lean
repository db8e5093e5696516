/-
  A way put or taken out, what is done at a topic's place, and the table of what the kinds of steps do, the program's. Conditions: that what is handed in reads as data.
-/
import Derived.Test.YtgalkgidjpbiaaaGreatD2
import Derived.Test.YtgalkgidjpbiaaaGreatMn2
import Derived.Test.YtgalkgidjpbiaaaGreatD3
set_option linter.all false
namespace Go.Wm
open Go.RowKit Go.Proofs
attribute [local irreducible] RG CG EG WA Loc Det Alc CT Exit.then Exit.inBlock Code.wp bodyPost
theorem OwnC.turnT {N : Nat} {k k' : PH} {b g : Nat} {x : Conf} {l : List Topic} {a0 : Option Addr} {c0 : Nat} {a1 : Option Addr} {c1 : Nat} {a2 : Option Addr} {c2 : Nat} {a3 : Option Addr} {c3 : Nat} {c : Array Value} (H : OwnC N k b x a0 c0 a1 c1 a2 c2 a3 c3) (ht : Turn1 k k' g) (hg : k g = some (.cells c 72 (0, 0))) (hl : l.length = x.topics.length) (ho : Own tTopic N k' 72 (.slice a0 l.length c0) l) :
    OwnC N k' b { x with topics := l } a0 c0 a1 c1 a2 c2 a3 c3 := by
  have hgb : b ≠ g := fun e => by
    have := H.at'
    rw [e, hg] at this
    exact absurd (cells_ty this) (by decide)
  refine ⟨?_, H.N_le, ho, H.r.turn ht hg (by decide) (fun _ _ _ _ h => h), H.q.turn ht hg (by decide) (fun _ _ _ _ h => h), H.w.turn ht hg (by decide) (fun _ _ _ _ h => h)⟩
  have := turn1_get ht hgb H.at'
  simp only [Conf.cs, hl] at this ⊢
  exact this
set_option maxHeartbeats 4000000 in
theorem more_ctm {N : Nat} {k : PH} {b : Nat} {x : Conf} {a0 : Option Addr} {c0 : Nat} {a1 : Option Addr} {c1 : Nat} {a2 : Option Addr} {c2 : Nat} {a3 : Option Addr} {c3 : Nat} {s : Step} (H : OwnC N k b x a0 c0 a1 c1 a2 c2 a3 c3) (hf : x.few) (hr : confP x = true) (hok : s.ok) (hkind : s.kind = 3) (hkn : knownC x s.name = true) :
    CTMN Tryz.prog 137 #[.pointer (some ⟨b, 0, none⟩), .agg s.vs.toArray, .int .i64 (posF (fun t => cmpStr t.name s.name) x.topics : Int)] k N (fun g => g = b) (PostC N b (actC x s)) := by
  refine ctmn_of_body (l := [_, _, _]) Tryz.func137 rfl Tryz.ntmps137 (by simp) fun F hF0 hFm hN0 hlt0 => ?_
  have hmu : F.mu b := by rw [hFm]
  obtain ⟨r1, r2, r3, r4, r5, r6⟩ := conf_parts hr
  obtain ⟨p, hlt, hp, hact⟩ := act_more hkind r3 hkn
  rw [hp]
  have ft := hf.1
  have htp := (r3 p hlt).1
  obtain ⟨t, ht⟩ : ∃ t, x.topics[p] = t := ⟨_, rfl⟩
  rw [ht] at hact htp
  have hpb : 1 ≤ t.partsV ∧ t.partsV ≤ 6 := by
    simp only [topicP, inI, Bool.and_eq_true, decide_eq_true_eq] at htp
    exact htp.2.1
  repeat (first | refine cg_seq ?_ | refine cg_region ?_)
  refine rb rfl rfl rfl rfl (a_box rfl rfl) ?_; intro b3 k3 hb3 hN3 hle3 hk3
  have H := H.le hle3
  have cs := cells_at (vs := s.vs) hk3 rfl
  obtain ⟨s0, s1, s2, s3, s4, s5⟩ := Step.parts cs
  obtain ⟨p0, p1, p2, p3, p4⟩ := Conf.parts H.cells
  have hbk3 := H.at'
  have hne : b3 ≠ b := fun e => by rw [← e, hk3] at hbk3; exact absurd (cells_ty hbk3) (by decide)
  obtain ⟨bx, ox, cx, ea, ⟨ecx, htok⟩, hcx⟩ := H.cf.t.el p t (by rw [List.getElem?_eq_getElem hlt, ht])
  subst ecx
  subst ea
  obtain ⟨q0, q1, q2, q3⟩ := Topic.parts hcx
  repeat (first | refine cg_seq ?_ | refine rg_nil ?_ | refine eg_then ?_ | refine qsp ?_)
  refine cg_any (by kernel_rfl) rfl ?_
  repeat (first | refine qwp ?_ | refine qwa ?_ | refine qwi ?_ | refine qwl ?_ | refine qwf ?_)
  refine ws rfl (loc_call_is rfl rfl rfl rfl (within_ct s.a (t.partsV + 1) 6)) ?_
  repeat (first | refine qwp ?_ | (refine wn rfl ?_; refine eg_then ?_))
  skip
  cases y1 : inI s.a (t.partsV + 1) 6
  · repeat (first | refine cg_seq ?_ | refine cg_region ?_ | refine rg_nil ?_ | refine eg_then ?_ | refine qsp ?_ | refine cg_cond_true rfl ?_ | refine cg_ret ?_ | refine eg_then_ret ?_)
    exact eg_return rfl rfl (postE (by rw [hact, y1]; rfl))
  rw [if_pos y1] at hact
  repeat (first | refine cg_seq ?_ | refine cg_region ?_ | refine eg_then ?_ | refine qsp ?_ | refine qsl ?_ | refine qsf ?_ | refine cg_cond_false rfl ?_ | refine cg_skip ?_)
  refine rvn rfl rfl rfl rfl rfl rfl rfl (cloneTopic_ct H.cf.t (by omega)) ?_
  rintro N4 k4 v4 hN4 hnew4 hle4 ⟨css4, hp4, hrow4⟩
  have hown4 : Own tTopic F.w0.heap.size k4 72 v4 x.topics := ⟨css4, hp4.le hle4, hrow4.N_le hN4⟩
  obtain ⟨a4, c4, rfl, _⟩ := hown4.sl
  have H4 := H.le hle4
  repeat (first | refine qsp ?_ | refine qsf ?_)
  refine rw0 rfl rfl rfl rfl rfl rfl rfl rfl H4.at' ?_ (.inr hmu) ?_
  · show 1 < 5
    omega
  intro k5 ht5 hk5
  have H5 := H4.setT (l := x.topics) (hown4.N_le hN0) ht5 rfl hk5
  have hown5 := hown4.turn ht5 H4.at' (by decide) (fun _ _ _ _ h => h)
  have cs5 := cells_at (vs := s.vs) (turn1_get ht5 hne (hle4 _ _ hk3)) rfl
  obtain ⟨g, cap, cur, cx, ev, hNg, hkg, hpc, hcg, hrg, hset⟩ := hown5.cell (i := p) (j := 1) hlt (by decide) (fun _ _ _ _ h => h)
  simp only [Value.slice.injEq, true_and] at ev
  obtain ⟨rfl, rfl⟩ := ev
  obtain ⟨s0, s1, s2, s3, s4, s5⟩ := Step.parts cs5
  obtain ⟨p0, p1, p2, p3, p4⟩ := Conf.parts H5.cells
  repeat (first | refine cg_seq ?_ | refine rg_nil ?_ | refine eg_then ?_)
  refine cg_fresh 9 [] (by kernel_rfl) (by kernel_rfl) rfl rfl rfl ?_
  dsimp only [List.take]
  repeat (first | refine qfp ?_ | refine qfi ?_ | refine qfl ?_ | refine qff ?_)
  refine fs_nil ?_
  intro k6 vs6 hle6 _ _ _
  dsimp only [List.drop]
  simp only [nameE, nameP]
  refine rw0 rfl rfl rfl rfl rfl rfl rfl rfl (hle6 _ _ hkg) hpc (.inl hNg) ?_
  intro k7 ht7 hk7
  have hnew := hset k7 (.int .i64 s.a) { t with partsV := s.a } (fun h a b => ht7 h (a.trans hle6) b) hk7 ⟨by rw [hrg.1, ht]; rfl, htok.1, hok.2.2.2.1, trivial, htok.2.2.2⟩
  rw [show x.topics.length = (x.topics.set p { t with partsV := s.a }).length by simp] at hnew
  repeat (first | refine cg_seq ?_ | refine cg_region ?_ | refine rg_nil ?_ | refine eg_then ?_ | refine qsp ?_ | refine cg_ret ?_)
  exact eg_return rfl rfl (postO hact ((H5.le hle6).turnT ht7 (hle6 _ _ hkg) (by simp) (hnew.N_le hN0)))
set_option maxHeartbeats 4000000 in
theorem keep_ctm {N : Nat} {k : PH} {b : Nat} {x : Conf} {a0 : Option Addr} {c0 : Nat} {a1 : Option Addr} {c1 : Nat} {a2 : Option Addr} {c2 : Nat} {a3 : Option Addr} {c3 : Nat} {s : Step} (H : OwnC N k b x a0 c0 a1 c1 a2 c2 a3 c3) (hf : x.few) (hr : confP x = true) (hok : s.ok) (hkind : s.kind = 4) (hkn : knownC x s.name = true) :
    CTMN Tryz.prog 138 #[.pointer (some ⟨b, 0, none⟩), .agg s.vs.toArray, .int .i64 (posF (fun t => cmpStr t.name s.name) x.topics : Int)] k N (fun g => g = b) (PostC N b (actC x s)) := by
  refine ctmn_of_body (l := [_, _, _]) Tryz.func138 rfl Tryz.ntmps138 (by simp) fun F hF0 hFm hN0 hlt0 => ?_
  have hmu : F.mu b := by rw [hFm]
  obtain ⟨r1, r2, r3, r4, r5, r6⟩ := conf_parts hr
  obtain ⟨p, hlt, hp, hact⟩ := act_keep hkind r3 hkn
  rw [hp]
  have ft := hf.1
  obtain ⟨t, ht⟩ : ∃ t, x.topics[p] = t := ⟨_, rfl⟩
  rw [ht] at hact
  repeat (first | refine cg_seq ?_ | refine cg_region ?_)
  refine rb rfl rfl rfl rfl (a_box rfl rfl) ?_; intro b3 k3 hb3 hN3 hle3 hk3
  have H := H.le hle3
  have cs := cells_at (vs := s.vs) hk3 rfl
  obtain ⟨p0, p1, p2, p3, p4⟩ := Conf.parts H.cells
  have hbk3 := H.at'
  have hne : b3 ≠ b := fun e => by rw [← e, hk3] at hbk3; exact absurd (cells_ty hbk3) (by decide)
  obtain ⟨bx, ox, cx, ea, ⟨ecx, htok⟩, hcx⟩ := H.cf.t.el p t (by rw [List.getElem?_eq_getElem hlt, ht])
  subst ecx
  clear hcx
  repeat (first | refine cg_seq ?_ | refine cg_region ?_ | refine rg_nil ?_ | refine eg_then ?_ | refine qsp ?_ | refine qsl ?_ | refine qsf ?_)
  refine rvn rfl rfl rfl rfl rfl rfl rfl (cloneTopic_ct H.cf.t (by omega)) ?_
  rintro N4 k4 v4 hN4 hnew4 hle4 ⟨css4, hp4, hrow4⟩
  have hown4 : Own tTopic F.w0.heap.size k4 72 v4 x.topics := ⟨css4, hp4.le hle4, hrow4.N_le hN4⟩
  obtain ⟨a4, c4, rfl, _⟩ := hown4.sl
  have H4 := H.le hle4
  repeat (first | refine qsp ?_ | refine qsf ?_)
  refine rw0 rfl rfl rfl rfl rfl rfl rfl rfl H4.at' ?_ (.inr hmu) ?_
  · show 1 < 5
    omega
  intro k5 ht5 hk5
  have H5 := H4.setT (l := x.topics) (hown4.N_le hN0) ht5 rfl hk5
  have hown5 := hown4.turn ht5 H4.at' (by decide) (fun _ _ _ _ h => h)
  have cs5 := cells_at (vs := s.vs) (turn1_get ht5 hne (hle4 _ _ hk3)) rfl
  obtain ⟨g, cap, cur, cx, ev, hNg, hkg, hpc, hcg, hrg, hset⟩ := hown5.cell (i := p) (j := 3) hlt (by decide) (fun _ _ _ _ h => h)
  simp only [Value.slice.injEq, true_and] at ev
  obtain ⟨rfl, rfl⟩ := ev
  obtain ⟨s0, s1, s2, s3, s4, s5⟩ := Step.parts cs5
  obtain ⟨p0, p1, p2, p3, p4⟩ := Conf.parts H5.cells
  repeat (first | refine cg_seq ?_ | refine rg_nil ?_ | refine eg_then ?_)
  refine cg_fresh 9 [] (by kernel_rfl) (by kernel_rfl) rfl rfl rfl ?_
  dsimp only [List.take]
  repeat (first | refine qfp ?_ | refine qfi ?_ | refine qfl ?_ | refine qff ?_)
  refine fs_nil ?_
  intro k6 vs6 hle6 _ _ _
  dsimp only [List.drop]
  simp only [nameE, nameP]
  refine rw0 rfl rfl rfl rfl rfl rfl rfl rfl (hle6 _ _ hkg) hpc (.inl hNg) ?_
  intro k7 ht7 hk7
  have hnew := hset k7 (.int .i64 s.c) { t with keep := s.c } (fun h a b => ht7 h (a.trans hle6) b) hk7 ⟨by rw [hrg.1, ht]; rfl, htok.1, htok.2.1, trivial, hok.2.2.2.2.2⟩
  rw [show x.topics.length = (x.topics.set p { t with keep := s.c }).length by simp] at hnew
  repeat (first | refine cg_seq ?_ | refine cg_region ?_ | refine rg_nil ?_ | refine eg_then ?_ | refine qsp ?_ | refine cg_ret ?_)
  exact eg_return rfl rfl (postO hact ((H5.le hle6).turnT ht7 (hle6 _ _ hkg) (by simp) (hnew.N_le hN0)))
end Go.Wm
namespace Go.Wm
open Go.RowKit Go.Proofs
attribute [local irreducible] RG CG EG WA Loc Det Alc CT Exit.then Exit.inBlock Code.wp bodyPost
theorem act_way {x : Conf} {s : Step} (hkind : s.kind = 7 ∨ s.kind = 8) (hk : knownC x s.topic = true) : actC x s = if ((decide (s.kind = 7) == goesC x ⟨s.a, s.b, s.topic⟩) || (decide (s.kind = 7) && (decide (s.a = s.b) || (decide (s.a > 3) || decide (s.b > 3))))) = true then .error 192 else .ok { x with ways := putInL ordWay x.ways ⟨s.a, s.b, s.topic⟩ (decide (s.kind = 7)) } := by
  unfold actC
  rw [if_neg (by omega), if_neg (by omega), if_neg (by omega), if_neg (by omega), if_neg (by omega), if_neg (by omega), if_pos hk]
set_option maxHeartbeats 4000000 in
theorem way_ctm {N : Nat} {k : PH} {b : Nat} {x : Conf} {a0 : Option Addr} {c0 : Nat} {a1 : Option Addr} {c1 : Nat} {a2 : Option Addr} {c2 : Nat} {a3 : Option Addr} {c3 : Nat} {s : Step} (at' : Int) (H : OwnC N k b x a0 c0 a1 c1 a2 c2 a3 c3) (hf : x.few) (hr : confP x = true) (hok : s.ok) (hkind : s.kind = 7 ∨ s.kind = 8) (hkn : knownC x s.topic = true) :
    CTMN Tryz.prog 127 #[.pointer (some ⟨b, 0, none⟩), .agg s.vs.toArray, .int .i64 at'] k N (fun g => g = b) (PostC N b (actC x s)) := by
  refine ctmn_of_body (l := [_, _, _]) Tryz.func127 rfl Tryz.ntmps127 (by simp) fun F hF0 hFm hN0 hlt0 => ?_
  have hmu : F.mu b := by rw [hFm]
  obtain ⟨r1, r2, r3, r4, r5, r6⟩ := conf_parts hr
  have hact := act_way hkind hkn
  obtain ⟨w, hw⟩ : ∃ w : Way, w = ⟨s.a, s.b, s.topic⟩ := ⟨_, rfl⟩
  have hwok : w.ok := by rw [hw]; exact ⟨hok.2.2.2.1, hok.2.2.2.2.1, hok.2.2.1⟩
  rw [← hw] at hact
  have fw := hf.2.2.2
  repeat (first | refine cg_seq ?_ | refine cg_region ?_)
  refine rb rfl rfl rfl rfl (a_box rfl rfl) ?_; intro b3 k3 hb3 hN3 hle3 hk3
  have H := H.le hle3
  have cs := cells_at (vs := s.vs) hk3 rfl
  obtain ⟨s0, s1, s2, s3, s4, s5⟩ := Step.parts cs
  obtain ⟨add, hadd⟩ : ∃ add, (s.kind == 7) = add := ⟨_, rfl⟩
  have hadd' : decide (s.kind = 7) = add := hadd
  rw [hadd'] at hact
  repeat (first | refine cg_seq ?_ | refine rg_nil ?_ | refine eg_then ?_ | refine qsp ?_)
  refine cg_sto 13 10 11 7 3 78 (fun _ u => u = .agg w.vs.toArray) (by kernel_rfl) (by kernel_rfl) rfl (by kernel_rfl) rfl rfl ?_
  dsimp only [List.take]
  repeat (first | refine qcl ?_ | refine qcf ?_)
  refine wc_v (φ := fun _ u => u = .agg w.vs.toArray) rfl (loc_isv (loc_det rfl (d_lit (cells := w.vs) rfl rfl (by rw [hw]; rfl))) rfl (fun _ _ _ _ h => h) fun _ _ => rfl) rfl ?_
  repeat (first | refine qcp ?_ | refine qcl ?_ | refine qcf ?_)
  refine wc_e 0 rfl (effs_new rfl rfl rfl (Le.refl _) (a_alloc rfl) rfl) ?_
  refine wc_e 1 rfl (effs_sto rfl rfl (Le.refl _) rfl rfl (fun k u h => ⟨_, h, rfl, by simp [Way.vs, Value.oneCell']⟩)) ?_
  repeat (first | refine qcp ?_)
  refine wc_nil ?_
  rintro k5 k6 k7 vs9 b9 _ hle5 rfl hle56 hn9 hle67 hk7 hN9 eb9 hvs9
  clear hvs9
  dsimp only [List.drop]
  simp only [nameE, nameP, set]
  rw [eb9, hadd]
  have hle7 : Le k3 k7 := hle5.trans (hle56.trans hle67)
  have cw := cells_at (vs := w.vs) hk7 rfl
  have H := H.le hle7
  obtain ⟨s0, s1, s2, s3, s4, s5⟩ := Step.parts (cs.le hle7)
  obtain ⟨p0, p1, p2, p3, p4⟩ := Conf.parts H.cells
  have hcon := containsW_ct H.cf.w w
  have hg : (x.ways.any fun y => decide (y = w)) = goesC x w := rfl
  rw [hg] at hcon
  generalize goesC x w = gs at hact hcon
  repeat (first | refine cg_seq ?_ | refine rg_nil ?_ | refine eg_then ?_)
  refine cg_any (by kernel_rfl) rfl ?_
  repeat (first | refine qwp ?_ | refine qwl ?_ | refine qwg ?_ | refine qwf ?_)
  refine ws rfl (loc_call_is rfl rfl rfl rfl (hcon)) ?_
  repeat (first | refine qwp ?_)
  refine ws rfl (loc_det rfl (d_eqb rfl rfl rfl)) ?_
  repeat (first | refine qwp ?_)
  cases add
  · cases gs
    · repeat (first | refine qwp ?_ | refine qwo ?_ | (refine wn rfl ?_; refine eg_then ?_))
      repeat (first | refine cg_seq ?_ | refine cg_region ?_ | refine rg_nil ?_ | refine eg_then ?_ | refine qsp ?_ | refine cg_cond_true rfl ?_ | refine cg_ret ?_ | refine eg_then_ret ?_)
      exact eg_return rfl rfl (postE (by rw [hact]; rfl))
    · have hact2 : actC x s = .ok { x with ways := putInL ordWay x.ways w false } := by rw [hact]; rfl
      repeat (first | refine qwp ?_ | refine qwo ?_ | (refine wn rfl ?_; refine eg_then ?_))
      repeat (first | refine cg_seq ?_ | refine eg_then ?_ | refine cg_cond_false rfl ?_ | refine cg_skip ?_)
      refine cg_calls 10 (by kernel_rfl) (by kernel_rfl) rfl rfl ?_
      dsimp only [List.take]
      repeat (first | refine qcp ?_ | refine qcl ?_ | refine qcg ?_ | refine qcf ?_)
      refine wc_iv rfl (loci_ctn xn_size rfl rfl rfl rfl (Le.refl _) (fun M k k' v hle h => h.le hle) (setWay_ctn (g := 122) H.cf.w fw w hwok ordWay (fun k0 a b => waysOrd_ct a b) (right_split ordL_way r6 w) _)) rfl ?_
      repeat (first | refine qcp ?_ | refine qcf ?_)
      refine wc_nil ?_
      intro k8 vs hle8 hvs
      obtain ⟨M, hM1, hM2, hown⟩ := hvs 52 _ rfl
      dsimp only [List.drop, nameE, nameP]
      generalize vs 52 = v8 at hown ⊢
      clear hvs
      obtain ⟨a, c, rfl, _⟩ := hown.sl
      have H := H.le hle8
      refine rw0 rfl rfl rfl rfl rfl rfl rfl rfl H.at' ?_ (.inr hmu) ?_
      · show 4 < 5
        omega
      intro k9 ht9 hk9
      repeat (first | refine cg_seq ?_ | refine cg_region ?_ | refine rg_nil ?_ | refine eg_then ?_ | refine qsp ?_ | refine cg_ret ?_)
      exact eg_return rfl rfl (postO hact2 (H.setW (hown.N_le (Nat.le_trans hN0 hM1)) ht9 rfl hk9))
  · cases gs
    rotate_left
    · repeat (first | refine qwp ?_ | refine qwo ?_ | (refine wn rfl ?_; refine eg_then ?_))
      repeat (first | refine cg_seq ?_ | refine cg_region ?_ | refine rg_nil ?_ | refine eg_then ?_ | refine qsp ?_ | refine cg_cond_true rfl ?_ | refine cg_ret ?_ | refine eg_then_ret ?_)
      exact eg_return rfl rfl (postE (by rw [hact]; rfl))
    repeat (first | refine qwp ?_ | refine qwl ?_ | refine qwf ?_)
    cases q1 : (s.a == s.b)
    rotate_left
    · have q1' : s.a = s.b := by simpa using q1
      repeat (first | refine qwp ?_ | refine qwo ?_ | (refine wn rfl ?_; refine eg_then ?_))
      repeat (first | refine cg_seq ?_ | refine cg_region ?_ | refine rg_nil ?_ | refine eg_then ?_ | refine qsp ?_ | refine cg_cond_true rfl ?_ | refine cg_ret ?_ | refine eg_then_ret ?_)
      exact eg_return rfl rfl (postE (by rw [hact, decide_eq_true q1']; rfl))
    have q1' : ¬ s.a = s.b := by simpa using q1
    repeat (first | refine qwl ?_ | refine qwf ?_)
    refine ws rfl (loc_det rfl (d_max rfl rfl rfl)) ?_
    repeat (first | refine qwp ?_ | (refine wn rfl ?_; refine eg_then ?_))
    cases q2 : decide ((if s.a < s.b then s.b else s.a) ≥ 4)
    rotate_left
    · skip
      repeat (first | refine cg_seq ?_ | refine cg_region ?_ | refine rg_nil ?_ | refine eg_then ?_ | refine qsp ?_ | refine cg_cond_true rfl ?_ | refine cg_ret ?_ | refine eg_then_ret ?_)
      have e3 : (decide (s.a > 3) || decide (s.b > 3)) = true := by
        simp only [decide_eq_true_eq] at q2
        simp only [Bool.or_eq_true, decide_eq_true_eq]
        split at q2 <;> omega
      exact eg_return rfl rfl (postE (by rw [hact, e3]; simp))
    have hact2 : actC x s = .ok { x with ways := putInL ordWay x.ways w true } := by
      have e3 : (decide (s.a > 3) || decide (s.b > 3)) = false := by
        simp only [decide_eq_false_iff_not] at q2
        simp only [Bool.or_eq_false_iff, decide_eq_false_iff_not]
        split at q2 <;> omega
      rw [hact, e3, decide_eq_false q1']
      simp
    skip
    repeat (first | refine cg_seq ?_ | refine eg_then ?_ | refine cg_cond_false rfl ?_ | refine cg_skip ?_)
    refine cg_calls 10 (by kernel_rfl) (by kernel_rfl) rfl rfl ?_
    dsimp only [List.take]
    repeat (first | refine qcp ?_ | refine qcl ?_ | refine qcg ?_ | refine qcf ?_)
    refine wc_iv rfl (loci_ctn xn_size rfl rfl rfl rfl (Le.refl _) (fun M k k' v hle h => h.le hle) (setWay_ctn (g := 122) H.cf.w fw w hwok ordWay (fun k0 a b => waysOrd_ct a b) (right_split ordL_way r6 w) _)) rfl ?_
    repeat (first | refine qcp ?_ | refine qcf ?_)
    refine wc_nil ?_
    intro k8 vs hle8 hvs
    obtain ⟨M, hM1, hM2, hown⟩ := hvs 52 _ rfl
    dsimp only [List.drop, nameE, nameP]
    generalize vs 52 = v8 at hown ⊢
    clear hvs
    obtain ⟨a, c, rfl, _⟩ := hown.sl
    have H := H.le hle8
    refine rw0 rfl rfl rfl rfl rfl rfl rfl rfl H.at' ?_ (.inr hmu) ?_
    · show 4 < 5
      omega
    intro k9 ht9 hk9
    repeat (first | refine cg_seq ?_ | refine cg_region ?_ | refine rg_nil ?_ | refine eg_then ?_ | refine qsp ?_ | refine cg_ret ?_)
    exact eg_return rfl rfl (postO hact2 (H.setW (hown.N_le (Nat.le_trans hN0 hM1)) ht9 rfl hk9))
end Go.Wm

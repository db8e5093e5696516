/-
  What the steps do that name no topic's place, the program's. Conditions: that what is handed in reads as data.
-/
import Derived.Test.YtgalkgidjpbiaaaGreatD1
import Derived.Test.YtgalkgidjpbiaaaGreatS0
set_option linter.all false
namespace Go.Wm
open Go.RowKit Go.Proofs
attribute [local irreducible] RG CG EG WA Loc Det Alc CT Exit.then Exit.inBlock Code.wp bodyPost
/-- What a step has left: why not, or the configuration behind it. -/
def PostC (N b : Nat) (r : Except Int Conf) (k : PH) (v : Value) : Prop := match r with
  | .error e => v = .int .i64 e
  | .ok x => v = .int .i64 0 ∧ ∃ a0 c0 a1 c1 a2 c2 a3 c3, OwnC N k b x a0 c0 a1 c1 a2 c2 a3 c3
theorem postE {N b : Nat} {r : Except Int Conf} {k : PH} {e : Int} (h : r = .error e) : PostC N b r k (.int .i64 e) := by rw [h]; rfl
theorem postO {N b : Nat} {r : Except Int Conf} {k : PH} {x : Conf} {a0 : Option Addr} {c0 : Nat} {a1 : Option Addr} {c1 : Nat} {a2 : Option Addr} {c2 : Nat} {a3 : Option Addr} {c3 : Nat} (h : r = .ok x) (H : OwnC N k b x a0 c0 a1 c1 a2 c2 a3 c3) : PostC N b r k (.int .i64 0) := by
  rw [h]; exact ⟨rfl, _, _, _, _, _, _, _, _, H⟩
set_option maxHeartbeats 2000000 in
theorem add_ctm {N : Nat} {k : PH} {b : Nat} {x : Conf} {a0 : Option Addr} {c0 : Nat} {a1 : Option Addr} {c1 : Nat} {a2 : Option Addr} {c2 : Nat} {a3 : Option Addr} {c3 : Nat} {s : Step} (H : OwnC N k b x a0 c0 a1 c1 a2 c2 a3 c3) (hf : x.few) (hr : confP x = true) (hok : s.ok) (hkind : s.kind = 1) :
    CTMN Tryz.prog 129 #[.pointer (some ⟨b, 0, none⟩), .agg s.vs.toArray] k N (fun g => g = b) (PostC N b (actC x s)) := by
  refine ctmn_of_body (l := [_, _]) Tryz.func129 rfl Tryz.ntmps129 (by simp) fun F hF0 hFm hN0 hlt0 => ?_
  have hmu : F.mu b := by rw [hFm]
  obtain ⟨r1, r2, r3, r4, r5, r6⟩ := conf_parts hr
  have hact : actC x s = if knownC x s.name = true then .error 190 else if (!inI s.a 1 6 || (decide (s.b > 1) || decide (x.topics.length = 12))) = true then .error 192 else .ok { x with topics := putInL ordTopic x.topics ⟨s.name, s.a, decide (s.b = 1), s.c⟩ true } := by
    unfold actC; rw [if_pos hkind]
  repeat (first | refine cg_seq ?_ | refine cg_region ?_)
  refine rb rfl rfl rfl rfl (a_box rfl rfl) ?_; intro b3 k3 hb3 hN3 hle3 hk3
  have H := H.le hle3
  have c := H.cells
  have cs := cells_at (vs := s.vs) hk3 rfl
  obtain ⟨s0, s1, s2, s3, s4, s5⟩ := Step.parts cs
  obtain ⟨p0, p1, p2, p3, p4⟩ := Conf.parts c
  repeat (first | refine cg_seq ?_ | refine rg_nil ?_ | refine eg_then ?_ | refine qsp ?_)
  refine cg_any (by kernel_rfl) rfl ?_
  repeat (first | refine qwp ?_)
  refine ws rfl (loc_det rfl (d_load_agg (vs := x.cs a0 c0 a1 c1 a2 c2 a3 c3) rfl rfl rfl rfl c)) ?_
  repeat (first | refine qwl ?_ | refine qwf ?_)
  refine ws rfl (loc_call_is rfl rfl rfl rfl (known_ct a1 c1 a2 c2 a3 c3 H.cf.t s.name)) ?_
  repeat (first | (refine wn rfl ?_; refine eg_then ?_))
  skip
  cases q1 : knownC x s.name
  rotate_left
  · repeat (first | refine cg_seq ?_ | refine cg_region ?_ | refine rg_nil ?_ | refine eg_then ?_ | refine qsp ?_ | refine cg_cond_true rfl ?_ | refine cg_ret ?_ | refine eg_then_ret ?_)
    exact eg_return rfl rfl (postE (by rw [hact, q1]; rfl))
  repeat (first | refine cg_seq ?_ | refine cg_region ?_ | refine eg_then ?_ | refine qsl ?_ | refine qsf ?_ | refine cg_cond_false rfl ?_ | refine cg_skip ?_)
  refine rs rfl rfl (loc_call_is rfl rfl rfl rfl (within_ct s.a 1 6)) ?_
  repeat (first | refine qsp ?_)
  cases q2 : inI s.a 1 6
  · repeat (first | refine cg_seq ?_ | refine cg_region ?_ | refine rg_nil ?_ | refine eg_then ?_ | refine qsp ?_ | refine qso ?_ | refine cg_cond_true rfl ?_ | refine cg_ret ?_ | refine eg_then_ret ?_)
    exact eg_return rfl rfl (postE (by rw [hact, q1, q2]; rfl))
  repeat (first | refine qsp ?_ | refine qsl ?_ | refine qsf ?_)
  cases q3 : decide (s.b > 1)
  rotate_left
  · repeat (first | refine cg_seq ?_ | refine cg_region ?_ | refine rg_nil ?_ | refine eg_then ?_ | refine qsp ?_ | refine qso ?_ | refine cg_cond_true rfl ?_ | refine cg_ret ?_ | refine eg_then_ret ?_)
    exact eg_return rfl rfl (postE (by rw [hact, q1, q2, q3]; rfl))
  repeat (first | refine rg_nil ?_ | refine eg_then ?_ | refine qsp ?_ | refine qsn ?_ | refine qsl ?_ | refine qsf ?_)
  cases q4 : ((x.topics.length : Int) == 12)
  rotate_left
  · have : x.topics.length = 12 := by simp at q4; omega
    repeat (first | refine cg_seq ?_ | refine cg_region ?_ | refine rg_nil ?_ | refine eg_then ?_ | refine qsp ?_ | refine cg_cond_true rfl ?_ | refine cg_ret ?_ | refine eg_then_ret ?_)
    exact eg_return rfl rfl (postE (by rw [hact, q1, q2, q3, this]; rfl))
  have q4' : ¬ x.topics.length = 12 := by simp at q4; omega
  have hact2 : actC x s = .ok { x with topics := putInL ordTopic x.topics ⟨s.name, s.a, decide (s.b = 1), s.c⟩ true } := by rw [hact, q1, q2, q3, decide_eq_false q4']; rfl
  obtain ⟨t, ht⟩ : ∃ t : Topic, t = ⟨s.name, s.a, decide (s.b = 1), s.c⟩ := ⟨_, rfl⟩
  have htok : t.ok := by rw [ht]; exact ⟨hok.2.1, hok.2.2.2.1, trivial, hok.2.2.2.2.2⟩
  rw [← ht] at hact2
  repeat (first | refine cg_seq ?_ | refine eg_then ?_ | refine cg_cond_false rfl ?_ | refine cg_skip ?_)
  refine cg_calls 18 (by kernel_rfl) (by kernel_rfl) rfl rfl ?_
  dsimp only [List.take]
  repeat (first | refine qcp ?_ | refine qcl ?_ | refine qcf ?_)
  refine wc_s rfl (loc_det rfl (d_lit (cells := t.vs) rfl rfl (by rw [ht]; rfl))) rfl ?_
  refine wc_iv rfl (loci_ctn xn_size rfl rfl rfl rfl (Le.refl _) (fun M k k' v hle h => h.le hle) (setTopic_ctn (g := 112) H.cf.t hf.1 t htok ordTopic (fun k0 a b => topicsOrd_ct a b) (right_split ordL_topic r3 t) true)) rfl ?_
  repeat (first | refine qcp ?_ | refine qcf ?_)
  refine wc_nil ?_
  intro k4 vs hle4 hvs
  obtain ⟨M, hM1, hM2, hown⟩ := hvs 43 _ rfl
  dsimp only [List.drop, nameE, nameP]
  generalize vs 43 = v4 at hown ⊢
  clear hvs
  obtain ⟨a, c, rfl, _⟩ := hown.sl
  have H := H.le hle4
  refine rw0 rfl rfl rfl rfl rfl rfl rfl rfl H.at' ?_ (.inr hmu) ?_
  · show 1 < 5
    omega
  intro k5 ht5 hk5
  repeat (first | refine cg_seq ?_ | refine cg_region ?_ | refine rg_nil ?_ | refine eg_then ?_ | refine qsp ?_ | refine cg_ret ?_)
  exact eg_return rfl rfl (postO hact2 (H.setT (hown.N_le (Nat.le_trans hN0 hM1)) ht5 rfl hk5))
set_option maxHeartbeats 2000000 in
theorem rule_ctm {N : Nat} {k : PH} {b : Nat} {x : Conf} {a0 : Option Addr} {c0 : Nat} {a1 : Option Addr} {c1 : Nat} {a2 : Option Addr} {c2 : Nat} {a3 : Option Addr} {c3 : Nat} {s : Step} (H : OwnC N k b x a0 c0 a1 c1 a2 c2 a3 c3) (hf : x.few) (hr : confP x = true) (hok : s.ok) (hkind : s.kind = 5) :
    CTMN Tryz.prog 139 #[.pointer (some ⟨b, 0, none⟩), .agg s.vs.toArray] k N (fun g => g = b) (PostC N b (actC x s)) := by
  refine ctmn_of_body (l := [_, _]) Tryz.func139 rfl Tryz.ntmps139 (by simp) fun F hF0 hFm hN0 hlt0 => ?_
  have hmu : F.mu b := by rw [hFm]
  obtain ⟨r1, r2, r3, r4, r5, r6⟩ := conf_parts hr
  have hact : actC x s = if (!decide (s.topic = starS) && !knownC x s.topic) = true then .error 190 else if s.a > 7 then .error 192 else .ok { x with rules := putInL ordRule x.rules ⟨s.name, s.topic, s.a⟩ (decide (s.a > 0)) } := by
    unfold actC; simp [hkind]
  obtain ⟨t, ht⟩ : ∃ t : Rule, t = ⟨s.name, s.topic, s.a⟩ := ⟨_, rfl⟩
  have htok : t.ok := by rw [ht]; exact ⟨hok.2.1, hok.2.2.1, hok.2.2.2.1⟩
  rw [← ht] at hact
  repeat (first | refine cg_seq ?_ | refine cg_region ?_)
  refine rb rfl rfl rfl rfl (a_box rfl rfl) ?_; intro b3 k3 hb3 hN3 hle3 hk3
  have H := H.le hle3
  have c := H.cells
  have cs := cells_at (vs := s.vs) hk3 rfl
  obtain ⟨s0, s1, s2, s3, s4, s5⟩ := Step.parts cs
  obtain ⟨p0, p1, p2, p3, p4⟩ := Conf.parts c
  repeat (first | refine cg_seq ?_ | refine rg_nil ?_ | refine eg_then ?_ | refine qsp ?_)
  refine cg_any (by kernel_rfl) rfl ?_
  repeat (first | refine qwp ?_ | refine qwl ?_ | refine qwf ?_)
  cases q1 : decide (s.topic = { data := #[42] })
  rotate_left
  · have q0 : (!decide (s.topic = starS) && !knownC x s.topic) = false := by unfold starS; rw [q1]; rfl
    repeat (first | refine qwp ?_ | refine qwo ?_ | (refine wn rfl ?_; refine eg_then ?_))
    repeat (first | refine cg_seq ?_ | refine cg_region ?_ | refine rg_nil ?_ | refine eg_then ?_ | refine qsp ?_ | refine qsl ?_ | refine qsf ?_ | refine cg_cond_false rfl ?_ | refine cg_skip ?_)
    cases q3 : decide (s.a > 7)
    rotate_left
    · repeat (first | refine cg_seq ?_ | refine cg_region ?_ | refine rg_nil ?_ | refine eg_then ?_ | refine qsp ?_ | refine cg_cond_true rfl ?_ | refine cg_ret ?_ | refine eg_then_ret ?_)
      exact eg_return rfl rfl (postE (by rw [hact, if_neg (by simp [q0]), if_pos (by simpa using q3)]))
    have hact2 : actC x s = .ok { x with rules := putInL ordRule x.rules t (decide (s.a > 0)) } := by rw [hact, if_neg (by simp [q0]), if_neg (by simpa using q3)]
    repeat (first | refine cg_seq ?_ | refine eg_then ?_ | refine cg_cond_false rfl ?_ | refine cg_skip ?_)
    refine cg_calls 18 (by kernel_rfl) (by kernel_rfl) rfl rfl ?_
    dsimp only [List.take]
    repeat (first | refine qcp ?_ | refine qcl ?_ | refine qcf ?_)
    refine wc_s rfl (loc_det rfl (d_lit (cells := t.vs) rfl rfl (by rw [ht]; rfl))) rfl ?_
    repeat (first | refine qcp ?_ | refine qcl ?_ | refine qcf ?_)
    refine wc_iv rfl (loci_ctn xn_size rfl rfl rfl rfl (Le.refl _) (fun M k k' v hle h => h.le hle) (setRule_ctn (g := 115) H.cf.r hf.2.1 t htok ordRule (fun k0 a b => rulesOrd_ct a b) (right_split ordL_rule r4 t) (decide (s.a > 0)))) rfl ?_
    repeat (first | refine qcp ?_ | refine qcf ?_)
    refine wc_nil ?_
    intro k4 vs hle4 hvs
    obtain ⟨M, hM1, hM2, hown⟩ := hvs 35 _ rfl
    dsimp only [List.drop, nameE, nameP]
    generalize vs 35 = v4 at hown ⊢
    clear hvs
    obtain ⟨a, c, rfl, _⟩ := hown.sl
    have H := H.le hle4
    refine rw0 rfl rfl rfl rfl rfl rfl rfl rfl H.at' ?_ (.inr hmu) ?_
    · show 2 < 5
      omega
    intro k5 ht5 hk5
    repeat (first | refine cg_seq ?_ | refine cg_region ?_ | refine rg_nil ?_ | refine eg_then ?_ | refine qsp ?_ | refine cg_ret ?_)
    exact eg_return rfl rfl (postO hact2 (H.setR (hown.N_le (Nat.le_trans hN0 hM1)) ht5 rfl hk5))
  repeat (first | refine qwp ?_)
  refine ws rfl (loc_det rfl (d_load_agg (vs := x.cs a0 c0 a1 c1 a2 c2 a3 c3) rfl rfl rfl rfl c)) ?_
  repeat (first | refine qwl ?_ | refine qwf ?_)
  refine ws rfl (loc_call_is rfl rfl rfl rfl (known_ct a1 c1 a2 c2 a3 c3 H.cf.t s.topic)) ?_
  repeat (first | refine qwp ?_ | (refine wn rfl ?_; refine eg_then ?_))
  cases q2 : knownC x s.topic
  · skip
    repeat (first | refine cg_seq ?_ | refine cg_region ?_ | refine rg_nil ?_ | refine eg_then ?_ | refine qsp ?_ | refine cg_cond_true rfl ?_ | refine cg_ret ?_ | refine eg_then_ret ?_)
    exact eg_return rfl rfl (postE (by rw [hact, if_pos (by unfold starS; rw [q1, q2]; rfl)]))
  have q0 : (!decide (s.topic = starS) && !knownC x s.topic) = false := by rw [q2]; simp
  skip
  repeat (first | refine cg_seq ?_ | refine cg_region ?_ | refine rg_nil ?_ | refine eg_then ?_ | refine qsp ?_ | refine qsl ?_ | refine qsf ?_ | refine cg_cond_false rfl ?_ | refine cg_skip ?_)
  cases q3 : decide (s.a > 7)
  rotate_left
  · repeat (first | refine cg_seq ?_ | refine cg_region ?_ | refine rg_nil ?_ | refine eg_then ?_ | refine qsp ?_ | refine cg_cond_true rfl ?_ | refine cg_ret ?_ | refine eg_then_ret ?_)
    exact eg_return rfl rfl (postE (by rw [hact, if_neg (by simp [q0]), if_pos (by simpa using q3)]))
  have hact2 : actC x s = .ok { x with rules := putInL ordRule x.rules t (decide (s.a > 0)) } := by rw [hact, if_neg (by simp [q0]), if_neg (by simpa using q3)]
  repeat (first | refine cg_seq ?_ | refine eg_then ?_ | refine cg_cond_false rfl ?_ | refine cg_skip ?_)
  refine cg_calls 18 (by kernel_rfl) (by kernel_rfl) rfl rfl ?_
  dsimp only [List.take]
  repeat (first | refine qcp ?_ | refine qcl ?_ | refine qcf ?_)
  refine wc_s rfl (loc_det rfl (d_lit (cells := t.vs) rfl rfl (by rw [ht]; rfl))) rfl ?_
  repeat (first | refine qcp ?_ | refine qcl ?_ | refine qcf ?_)
  refine wc_iv rfl (loci_ctn xn_size rfl rfl rfl rfl (Le.refl _) (fun M k k' v hle h => h.le hle) (setRule_ctn (g := 115) H.cf.r hf.2.1 t htok ordRule (fun k0 a b => rulesOrd_ct a b) (right_split ordL_rule r4 t) (decide (s.a > 0)))) rfl ?_
  repeat (first | refine qcp ?_ | refine qcf ?_)
  refine wc_nil ?_
  intro k4 vs hle4 hvs
  obtain ⟨M, hM1, hM2, hown⟩ := hvs 35 _ rfl
  dsimp only [List.drop, nameE, nameP]
  generalize vs 35 = v4 at hown ⊢
  clear hvs
  obtain ⟨a, c, rfl, _⟩ := hown.sl
  have H := H.le hle4
  refine rw0 rfl rfl rfl rfl rfl rfl rfl rfl H.at' ?_ (.inr hmu) ?_
  · show 2 < 5
    omega
  intro k5 ht5 hk5
  repeat (first | refine cg_seq ?_ | refine cg_region ?_ | refine rg_nil ?_ | refine eg_then ?_ | refine qsp ?_ | refine cg_ret ?_)
  exact eg_return rfl rfl (postO hact2 (H.setR (hown.N_le (Nat.le_trans hN0 hM1)) ht5 rfl hk5))
set_option maxHeartbeats 2000000 in
theorem rate_ctm {N : Nat} {k : PH} {b : Nat} {x : Conf} {a0 : Option Addr} {c0 : Nat} {a1 : Option Addr} {c1 : Nat} {a2 : Option Addr} {c2 : Nat} {a3 : Option Addr} {c3 : Nat} {s : Step} (H : OwnC N k b x a0 c0 a1 c1 a2 c2 a3 c3) (hf : x.few) (hr : confP x = true) (hok : s.ok) (h0a : 0 ≤ s.a) (h0b : 0 ≤ s.b) (hkind : s.kind = 6) :
    CTMN Tryz.prog 141 #[.pointer (some ⟨b, 0, none⟩), .agg s.vs.toArray] k N (fun g => g = b) (PostC N b (actC x s)) := by
  refine ctmn_of_body (l := [_, _]) Tryz.func141 rfl Tryz.ntmps141 (by simp) fun F hF0 hFm hN0 hlt0 => ?_
  have hmu : F.mu b := by rw [hFm]
  obtain ⟨r1, r2, r3, r4, r5, r6⟩ := conf_parts hr
  have hact : actC x s = if (decide (s.a = 0) != decide (s.b = 0) || (decide (s.a > 1048576) || decide (s.b > 1048576))) = true then .error 192 else .ok { x with rates := putInL ordRate x.rates ⟨s.name, s.a, s.b⟩ (decide (s.a > 0)) } := by
    unfold actC; simp [hkind]
  obtain ⟨t, ht⟩ : ∃ t : Rate, t = ⟨s.name, s.a, s.b⟩ := ⟨_, rfl⟩
  have htok : t.ok := by rw [ht]; exact ⟨hok.2.1, hok.2.2.2.1, hok.2.2.2.2.1⟩
  rw [← ht] at hact
  obtain ⟨mn, hmn⟩ : ∃ mn : Int, mn = if s.b < s.a then s.b else s.a := ⟨_, rfl⟩
  obtain ⟨mx, hmx⟩ : ∃ mx : Int, mx = if s.a < s.b then s.b else s.a := ⟨_, rfl⟩
  have bad : (mn = 0 ∧ mx > 0) ∨ mx > 1048576 → actC x s = .error 192 := fun h => by
    rw [hact, if_pos]
    simp only [Bool.or_eq_true, bne_iff_ne, ne_eq, decide_eq_decide, decide_eq_true_eq]
    split at hmn <;> split at hmx <;> omega
  have good : ¬ (mn = 0 ∧ mx > 0) → ¬ mx > 1048576 → actC x s = .ok { x with rates := putInL ordRate x.rates t (decide (s.a > 0)) } := fun h h' => by
    rw [hact, if_neg]
    simp only [Bool.or_eq_true, bne_iff_ne, ne_eq, decide_eq_decide, decide_eq_true_eq]
    split at hmn <;> split at hmx <;> omega
  repeat (first | refine cg_seq ?_ | refine cg_region ?_)
  refine rb rfl rfl rfl rfl (a_box rfl rfl) ?_; intro b3 k3 hb3 hN3 hle3 hk3
  have H := H.le hle3
  have c := H.cells
  have cs := cells_at (vs := s.vs) hk3 rfl
  obtain ⟨s0, s1, s2, s3, s4, s5⟩ := Step.parts cs
  obtain ⟨p0, p1, p2, p3, p4⟩ := Conf.parts c
  repeat (first | refine cg_seq ?_ | refine cg_region ?_ | refine rg_nil ?_ | refine eg_then ?_ | refine qsp ?_ | refine qsl ?_ | refine qsf ?_)
  refine rs rfl rfl (loc_det rfl (d_min rfl rfl rfl)) ?_
  rw [← hmn]
  repeat (first | refine qsp ?_)
  cases q1 : (mn == 0)
  · have q0 : ¬ (mn = 0 ∧ mx > 0) := fun h => by simp [h.1] at q1
    repeat (first | refine qsp ?_ | refine qsl ?_ | refine qsf ?_ | refine qso ?_)
    refine rs rfl rfl (loc_det rfl (d_max rfl rfl rfl)) ?_
    rw [← hmx]
    repeat (first | refine rg_nil ?_ | refine eg_then ?_ | refine qsp ?_)
    cases q3 : decide (mx > 1048576)
    rotate_left
    · repeat (first | refine cg_seq ?_ | refine cg_region ?_ | refine rg_nil ?_ | refine eg_then ?_ | refine qsp ?_ | refine cg_cond_true rfl ?_ | refine cg_ret ?_ | refine eg_then_ret ?_)
      exact eg_return rfl rfl (postE (bad (.inr (by simpa using q3))))
    have hact2 := good q0 (by simpa using q3)
    repeat (first | refine cg_seq ?_ | refine eg_then ?_ | refine cg_cond_false rfl ?_ | refine cg_skip ?_)
    refine cg_calls 18 (by kernel_rfl) (by kernel_rfl) rfl rfl ?_
    dsimp only [List.take]
    repeat (first | refine qcp ?_ | refine qcl ?_ | refine qcf ?_)
    refine wc_s rfl (loc_det rfl (d_lit (cells := t.vs) rfl rfl (by rw [ht]; rfl))) rfl ?_
    repeat (first | refine qcp ?_ | refine qcl ?_ | refine qcf ?_)
    refine wc_iv rfl (loci_ctn xn_size rfl rfl rfl rfl (Le.refl _) (fun M k k' v hle h => h.le hle) (setRate_ctn (g := 119) H.cf.q hf.2.2.1 t htok ordRate (fun k0 a b => ratesOrd_ct a b) (right_split ordL_rate r5 t) (decide (s.a > 0)))) rfl ?_
    repeat (first | refine qcp ?_ | refine qcf ?_)
    refine wc_nil ?_
    intro k4 vs hle4 hvs
    obtain ⟨M, hM1, hM2, hown⟩ := hvs 42 _ rfl
    dsimp only [List.drop, nameE, nameP]
    generalize vs 42 = v4 at hown ⊢
    clear hvs
    obtain ⟨a, c, rfl, _⟩ := hown.sl
    have H := H.le hle4
    refine rw0 rfl rfl rfl rfl rfl rfl rfl rfl H.at' ?_ (.inr hmu) ?_
    · show 3 < 5
      omega
    intro k5 ht5 hk5
    repeat (first | refine cg_seq ?_ | refine cg_region ?_ | refine rg_nil ?_ | refine eg_then ?_ | refine qsp ?_ | refine cg_ret ?_)
    exact eg_return rfl rfl (postO hact2 (H.setQ (hown.N_le (Nat.le_trans hN0 hM1)) ht5 rfl hk5))
  have q1' : mn = 0 := by simpa using q1
  repeat (first | refine qsl ?_ | refine qsf ?_)
  refine rs rfl rfl (loc_det rfl (d_max rfl rfl rfl)) ?_
  rw [← hmx]
  repeat (first | refine qsp ?_)
  cases q2 : decide (mx > 0)
  rotate_left
  · repeat (first | refine cg_seq ?_ | refine cg_region ?_ | refine rg_nil ?_ | refine eg_then ?_ | refine qsp ?_ | refine qso ?_ | refine cg_cond_true rfl ?_ | refine cg_ret ?_ | refine eg_then_ret ?_)
    exact eg_return rfl rfl (postE (bad (.inl ⟨q1', by simpa using q2⟩)))
  have q0 : ¬ (mn = 0 ∧ mx > 0) := fun h => by simp [h.2] at q2
  repeat (first | refine qsl ?_ | refine qsf ?_)
  refine rs rfl rfl (loc_det rfl (d_max rfl rfl rfl)) ?_
  rw [← hmx]
  repeat (first | refine rg_nil ?_ | refine eg_then ?_ | refine qsp ?_)
  cases q3 : decide (mx > 1048576)
  rotate_left
  · repeat (first | refine cg_seq ?_ | refine cg_region ?_ | refine rg_nil ?_ | refine eg_then ?_ | refine qsp ?_ | refine cg_cond_true rfl ?_ | refine cg_ret ?_ | refine eg_then_ret ?_)
    exact eg_return rfl rfl (postE (bad (.inr (by simpa using q3))))
  have hact2 := good q0 (by simpa using q3)
  repeat (first | refine cg_seq ?_ | refine eg_then ?_ | refine cg_cond_false rfl ?_ | refine cg_skip ?_)
  refine cg_calls 18 (by kernel_rfl) (by kernel_rfl) rfl rfl ?_
  dsimp only [List.take]
  repeat (first | refine qcp ?_ | refine qcl ?_ | refine qcf ?_)
  refine wc_s rfl (loc_det rfl (d_lit (cells := t.vs) rfl rfl (by rw [ht]; rfl))) rfl ?_
  repeat (first | refine qcp ?_ | refine qcl ?_ | refine qcf ?_)
  refine wc_iv rfl (loci_ctn xn_size rfl rfl rfl rfl (Le.refl _) (fun M k k' v hle h => h.le hle) (setRate_ctn (g := 119) H.cf.q hf.2.2.1 t htok ordRate (fun k0 a b => ratesOrd_ct a b) (right_split ordL_rate r5 t) (decide (s.a > 0)))) rfl ?_
  repeat (first | refine qcp ?_ | refine qcf ?_)
  refine wc_nil ?_
  intro k4 vs hle4 hvs
  obtain ⟨M, hM1, hM2, hown⟩ := hvs 42 _ rfl
  dsimp only [List.drop, nameE, nameP]
  generalize vs 42 = v4 at hown ⊢
  clear hvs
  obtain ⟨a, c, rfl, _⟩ := hown.sl
  have H := H.le hle4
  refine rw0 rfl rfl rfl rfl rfl rfl rfl rfl H.at' ?_ (.inr hmu) ?_
  · show 3 < 5
    omega
  intro k5 ht5 hk5
  repeat (first | refine cg_seq ?_ | refine cg_region ?_ | refine rg_nil ?_ | refine eg_then ?_ | refine qsp ?_ | refine cg_ret ?_)
  exact eg_return rfl rfl (postO hact2 (H.setQ (hown.N_le (Nat.le_trans hN0 hM1)) ht5 rfl hk5))
end Go.Wm

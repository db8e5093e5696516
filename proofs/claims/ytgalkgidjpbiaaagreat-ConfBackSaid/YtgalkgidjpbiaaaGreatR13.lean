/-
  A step done at a configuration of the call's own, the document's. Conditions: that what is handed in reads as data.
-/
import Derived.Test.YtgalkgidjpbiaaaGreatR12
set_option linter.all false
namespace Go.Wm
open Go.RowKit Go.Proofs
attribute [local irreducible] RG CG EG WA Loc Det Alc CT Exit.then Exit.inBlock Code.wp bodyPost
theorem topF_lt (x : Conf) (s : ByteArray) : decide (topF x s < 0) = !knownC x s := by
  rw [← topF_known x s]
  by_cases h : topF x s < 0
  · simp [h]
  · simp [h]; omega
theorem d_sl_lo {P : Program} {e : Env} {k : PH} {o : Oper} {t et : TypeId} {x y : Operand} {a0 : Option Addr} {c0 n p sz bs : Nat} {kd : IntKind} {z : Value} [ht : TyU P t (.slice et)] [hi' : TyI P et sz bs z] (hop : o.op = .slice t x none (some y) none)
    (hx : opv e x = some (.slice a0 n c0)) (hy : opv e y = some (.int kd (p : Int))) (ha : (a0 = none ∧ c0 = 0) ∨ ∃ b off, a0 = some ⟨b, off, none⟩) (hp : p ≤ n) (hn : n ≤ c0) : Det P e k o (.slice a0 p c0) := by
  rcases ha with ⟨rfl, rfl⟩ | ⟨b, off, rfl⟩
  · obtain rfl : n = 0 := by omega
    obtain rfl : p = 0 := by omega
    exact d_slice_nil (l := none) (h := some 0) hop hx trivial ⟨_, hy⟩ (Nat.le_refl _) (Nat.le_refl _)
  · exact det_cast (by simp [ob]) (d_slice (l := none) (h := some p) hop hx trivial ⟨_, hy⟩ (Nat.zero_le _) (by show p ≤ c0; omega) hn)
def hiA (a : Option Addr) (c p sz : Nat) : Option Addr := a.map fun d => ⟨d.block, if c = p then d.off else d.off + p * sz, none⟩
theorem d_sl_hi {P : Program} {e : Env} {k : PH} {o : Oper} {t et : TypeId} {x y : Operand} {a0 : Option Addr} {c0 n p sz bs : Nat} {kd : IntKind} {z : Value} [ht : TyU P t (.slice et)] [hi' : TyI P et sz bs z] (hop : o.op = .slice t x (some y) none none)
    (hx : opv e x = some (.slice a0 n c0)) (hy : opv e y = some (.int kd (p : Int))) (ha : (a0 = none ∧ c0 = 0) ∨ ∃ b off, a0 = some ⟨b, off, none⟩) (hp : p ≤ n) (hn : n ≤ c0) : Det P e k o (.slice (hiA a0 c0 p sz) (n - p) (c0 - p)) := by
  rcases ha with ⟨rfl, rfl⟩ | ⟨b, off, rfl⟩
  · obtain rfl : n = 0 := by omega
    obtain rfl : p = 0 := by omega
    exact d_slice_nil (l := some 0) (h := none) hop hx ⟨_, hy⟩ trivial (Nat.le_refl _) (Nat.le_refl _)
  · exact d_slice (l := some p) (h := none) hop hx ⟨_, hy⟩ trivial hp hn hn
theorem apn_lo {α : Type} {f : α → List Value} {sz : Nat} (hf : ∀ x, (f x).length = sz) {k : PH} {a0 : Option Addr} {c0 p : Nat} {l : List α} (h : Apn k (.slice a0 l.length c0) l.length (l.flatMap f)) (hp : p ≤ l.length) : Apn k (.slice a0 p c0) p ((l.take p).flatMap f) := by
  rcases h with ⟨bx, ox, c, e, hc⟩ | ⟨h0, _, _⟩
  · simp only [Value.slice.injEq, true_and] at e
    obtain ⟨rfl, rfl⟩ := e
    exact apn_take hf hc
  · have hl : l = [] := List.length_eq_zero_iff.1 h0
    obtain rfl : p = 0 := by omega
    exact .inr ⟨rfl, by simp, _, _, rfl⟩
theorem apn_hi {α : Type} {f : α → List Value} {sz : Nat} (hf : ∀ x, (f x).length = sz) {k : PH} {a0 : Option Addr} {c0 p : Nat} {l : List α} (h : Apn k (.slice a0 l.length c0) l.length (l.flatMap f)) (hn : l.length ≤ c0) (hp : p ≤ l.length) : Apn k (.slice (hiA a0 c0 p sz) (l.length - p) (c0 - p)) (l.length - p) ((l.drop p).flatMap f) := by
  rcases h with ⟨bx, ox, c, e, hc⟩ | ⟨h0, _, _⟩
  · simp only [Value.slice.injEq, true_and] at e
    obtain ⟨rfl, rfl⟩ := e
    exact apn_drop hf hc rfl hn hp
  · have hl : l = [] := List.length_eq_zero_iff.1 h0
    rw [show l.length - p = 0 by omega]
    exact .inr ⟨rfl, by simp [hl], _, _, rfl⟩
theorem Own.base {α : Type} {T : Ty α} {N : Nat} {k : PH} {et : Nat} {a : Option Addr} {n c : Nat} {l : List α} (h : Own T N k et (.slice a n c) l) : (a = none ∧ c = 0) ∨ ∃ b off, a = some ⟨b, off, none⟩ := by
  obtain ⟨css, _, _, hr⟩ := h
  rcases hr with ⟨e, _⟩ | ⟨g, cap, cur, e, _⟩
  · simp only [Value.slice.injEq] at e
    exact .inl ⟨e.1, e.2.2⟩
  · simp only [Value.slice.injEq] at e
    exact .inr ⟨g, 0, e.1⟩
theorem act_no3 {x : Conf} {s : Step} (hk : s.kind = 3) (q : knownC x s.name = false) : actC x s = .error 190 := by
  unfold actC
  rw [if_neg (by omega), if_neg (by omega), if_pos hk]
  have : x.topics.find? (fun t => decide (t.name = s.name)) = none := by
    rw [List.find?_eq_none]
    intro t ht
    unfold knownC at q
    simpa using List.any_eq_false.1 q t ht
  rw [this]
theorem act_no4 {x : Conf} {s : Step} (hk : s.kind = 4) (q : knownC x s.name = false) : actC x s = .error 190 := by
  unfold actC
  rw [if_neg (by omega), if_neg (by omega), if_neg (by omega), if_pos hk, if_neg (by rw [q]; simp)]
set_option maxHeartbeats 8000000 in
theorem refDo_ctm {N : Nat} {k : PH} {b : Nat} {x : Conf} {a0 : Option Addr} {c0 : Nat} {a1 : Option Addr} {c1 : Nat} {a2 : Option Addr} {c2 : Nat} {a3 : Option Addr} {c3 : Nat} {s : Step} (H : OwnC N k b x a0 c0 a1 c1 a2 c2 a3 c3) (hf : x.few) (hr : confP x = true) (hok : s.ok) (hs : formS s = true) :
    CTMN Tryz.prog 94 #[.pointer (some ⟨b, 0, none⟩), .agg s.vs.toArray] k N (fun g => g = b ∨ ∃ d, a0 = some d ∧ d.block = g) (PostC N b (actC x s)) := by
  refine ctmn_of_body (l := [_, _]) Tryz.func94 rfl Tryz.ntmps94 (by simp) fun F hF0 hFm hN0 hlt0 => ?_
  have hMb : ∀ g, g = b → F.w0.heap.size ≤ g ∨ F.mu g := fun g h => .inr (by rw [hFm]; exact .inl h)
  obtain ⟨r1, r2, r3, r4, r5, r6⟩ := conf_parts hr
  obtain ⟨n1, n8⟩ := form_kind hs
  have hf0 := hf.1
  repeat (first | refine cg_seq ?_ | refine cg_region ?_)
  refine rb rfl rfl rfl rfl (a_box rfl rfl) ?_; intro b3 k3 hb3 hN3 hle3 hk3
  have H := H.le hle3
  have cs := cells_at (vs := s.vs) hk3 rfl
  obtain ⟨s0, s1, s2, s3, s4, s5⟩ := Step.parts cs
  have cc := H.cells
  obtain ⟨p0, p1, p2, p3, p4⟩ := Conf.parts cc
  have cc := cc
  repeat (first | refine cg_seq ?_ | refine rg_nil ?_ | refine eg_then ?_ | refine qsp ?_)
  refine cg_any (by kernel_rfl) rfl ?_
  repeat (first | refine qwp ?_ | refine qwl ?_ | refine qwg ?_ | refine qwf ?_)
  refine ws rfl (loc_call_is rfl rfl rfl rfl (refTopic_ct a1 c1 a2 c2 a3 c3 H.cf.t s.name)) ?_
  repeat (first | refine qwp ?_ | (refine wn rfl ?_; refine eg_then ?_))
  repeat (first | refine cg_seq ?_ | refine cg_region ?_ | refine rg_nil ?_ | refine eg_then ?_ | refine qsp ?_ | refine qsl ?_ | refine qsf ?_ | refine cg_block ?_)
  cases k1 : (s.kind == 1)
  rotate_left
  · have hkind : s.kind = 1 := by simpa using k1
    have hact : actC x s = if knownC x s.name = true then .error 190 else if (!inI s.a 1 6 || (decide (s.b > 1) || decide (x.topics.length = 12))) = true then .error 192 else .ok { x with topics := putInL ordTopic x.topics ⟨s.name, s.a, decide (s.b = 1), s.c⟩ true } := by
      unfold actC; rw [if_pos hkind]
    repeat (first | refine cg_seq ?_ | refine cg_region ?_ | refine rg_nil ?_ | refine eg_then ?_ | refine qsp ?_ | refine cg_cond_true rfl ?_)
    rw [topF_known]
    cases q1 : knownC x s.name
    rotate_left
    · repeat (first | refine cg_seq ?_ | refine cg_region ?_ | refine rg_nil ?_ | refine eg_then ?_ | refine qsp ?_ | refine cg_cond_true rfl ?_ | refine cg_ret ?_ | refine eg_then_ret ?_ | refine eg_in_ret ?_)
      exact eg_return rfl rfl (postE (by rw [hact, q1]; rfl))
    repeat (first | refine cg_seq ?_ | refine cg_region ?_ | refine eg_then ?_ | refine qsl ?_ | refine qsf ?_ | refine cg_cond_false rfl ?_ | refine cg_skip ?_)
    refine rs rfl rfl (loc_call_is rfl rfl rfl rfl (refIn_ct s.a 1 6)) ?_
    repeat (first | refine qsp ?_)
    cases q2 : inI s.a 1 6
    · repeat (first | refine cg_seq ?_ | refine cg_region ?_ | refine rg_nil ?_ | refine eg_then ?_ | refine qsp ?_ | refine qso ?_ | refine cg_cond_true rfl ?_ | refine cg_ret ?_ | refine eg_then_ret ?_ | refine eg_in_ret ?_)
      exact eg_return rfl rfl (postE (by rw [hact, q1, q2]; rfl))
    repeat (first | refine qsp ?_ | refine qsl ?_ | refine qsf ?_)
    cases q3 : decide (s.b > 1)
    rotate_left
    · repeat (first | refine cg_seq ?_ | refine cg_region ?_ | refine rg_nil ?_ | refine eg_then ?_ | refine qsp ?_ | refine qso ?_ | refine cg_cond_true rfl ?_ | refine cg_ret ?_ | refine eg_then_ret ?_ | refine eg_in_ret ?_)
      exact eg_return rfl rfl (postE (by rw [hact, q1, q2, q3]; rfl))
    repeat (first | refine rg_nil ?_ | refine eg_then ?_ | refine qsp ?_ | refine qsn ?_ | refine qsl ?_ | refine qsf ?_)
    cases q4 : ((x.topics.length : Int) == 12)
    rotate_left
    · have : x.topics.length = 12 := by simp at q4; omega
      repeat (first | refine cg_seq ?_ | refine cg_region ?_ | refine rg_nil ?_ | refine eg_then ?_ | refine qsp ?_ | refine cg_cond_true rfl ?_ | refine cg_ret ?_ | refine eg_then_ret ?_ | refine eg_in_ret ?_)
      exact eg_return rfl rfl (postE (by rw [hact, q1, q2, q3, this]; rfl))
    have q4' : ¬ x.topics.length = 12 := by simp at q4; omega
    have hact2 : actC x s = .ok { x with topics := putInL ordTopic x.topics ⟨s.name, s.a, decide (s.b = 1), s.c⟩ true } := by rw [hact, q1, q2, q3, decide_eq_false q4']; rfl
    obtain ⟨t, ht⟩ : ∃ t : Topic, t = ⟨s.name, s.a, decide (s.b = 1), s.c⟩ := ⟨_, rfl⟩
    have htok : t.ok := by rw [ht]; exact ⟨hok.2.1, hok.2.2.2.1, trivial, hok.2.2.2.2.2⟩
    rw [← ht] at hact2
    have hbase := H.t.base
    have hcap := H.cf.t.cap
    have ok0 : ∀ z ∈ x.topics, z.ok := fun z hz => (sl_ok H.cf.t hz).elim fun _ h => h.2
    repeat (first | refine cg_seq ?_ | refine cg_region ?_ | refine rg_nil ?_ | refine eg_then ?_ | refine qsp ?_ | refine cg_cond_false rfl ?_ | refine cg_skip ?_ | refine cg_block ?_)
    refine cg_loop (fun (i : Nat) e k' => Le k3 k' ∧ (∀ q, (h : q < x.topics.length) → q < i → cmpStr (x.topics[q]).name s.name < 0) ∧ i ≤ x.topics.length ∧ e = [(0, .is (.pointer (some ⟨b, 0, none⟩))), (3, .is (.pointer (some ⟨b3, 0, none⟩))), (6, .is (.int .i64 (i : Int)))])
      (fun i => x.topics.length - i) 0 ⟨Le.refl _, fun _ _ h => by omega, Nat.zero_le _, rfl⟩ ⟨rfl, rfl, rfl, trivial⟩ ?_
    rintro i e k9 ⟨hle9, hbel, hi, rfl⟩
    have H9 := H.le hle9
    obtain ⟨s0, s1, s2, s3, s4, s5⟩ := Step.parts (cs.le hle9)
    obtain ⟨p0, p1, p2, p3, p4⟩ := Conf.parts H9.cells
    apply meet [(0, .is (.pointer (some ⟨b, 0, none⟩))), (3, .is (.pointer (some ⟨b3, 0, none⟩))), (6, .is (.int .i64 (i : Int)))] (posF (fun t => cmpStr t.name s.name) x.topics = i)
    · intro go
      repeat (first | refine cg_seq ?_)
      refine cg_any (by kernel_rfl) rfl ?_
      repeat (first | refine qwp ?_ | refine qwn ?_ | refine qwl ?_ | refine qwf ?_)
      cases y1 : decide ((i : Int) < (x.topics.length : Int))
      · repeat (first | refine qwp ?_ | refine qwo ?_ | (refine wn rfl ?_; refine eg_then ?_))
        repeat (first | refine cg_seq ?_ | refine eg_then ?_ | refine cg_cond_false rfl ?_ | refine cg_exit ?_ | refine eg_then_exit ?_ | refine eg_in_exit ?_)
        have hge : ¬ i < x.topics.length := by have := of_decide_eq_false y1; omega
        exact go _ (posF_eq hi hbel (fun h => absurd h hge)) ⟨rfl, rfl, rfl, trivial⟩
      have hlt : i < x.topics.length := by have := of_decide_eq_true y1; omega
      obtain ⟨y, hy⟩ : ∃ y, x.topics[i] = y := ⟨_, rfl⟩
      obtain ⟨bx, ox, cx, ea, ⟨ecx, hyok⟩, hcx⟩ := H9.cf.t.el i y (by rw [List.getElem?_eq_getElem hlt, hy])
      subst ecx
      subst ea
      obtain ⟨y0, y1, y2, y3⟩ := Topic.parts hcx
      repeat (first | refine qwp ?_ | refine qwi ?_ | refine qwl ?_ | refine qwf ?_ | (refine wn rfl ?_; refine eg_then ?_))
      rw [str_less]
      cases z2 : decide (cmpStr y.name s.name < 0)
      · skip
        repeat (first | refine cg_seq ?_ | refine eg_then ?_ | refine cg_cond_false rfl ?_ | refine cg_exit ?_ | refine eg_then_exit ?_ | refine eg_in_exit ?_)
        exact go _ (posF_eq hi hbel (fun h => by rw [hy]; exact of_decide_eq_false z2)) ⟨rfl, rfl, rfl, trivial⟩
      · skip
        repeat (first | refine cg_region ?_ | refine rg_nil ?_ | refine eg_then ?_ | refine qsp ?_ | refine qsa ?_ | refine cg_cond_true rfl ?_ | refine cg_skip ?_ | refine cg_block ?_ | refine eg_in_normal ?_)
        refine eg_again (i + 1) _ ⟨hle9, fun q hq hqi => ?_, hlt, rfl⟩ (by omega) ⟨rfl, rfl, rfl, trivial⟩
        by_cases e : q = i
        · subst e; rw [hy]; exact of_decide_eq_true z2
        · exact hbel q hq (by omega)
    intro hpos
    have hput : putInL ordTopic x.topics t true = x.topics.take i ++ ([t] ++ x.topics.drop i) := by
      have hm : metF (fun y => ordTopic y t) x.topics = false := by
        rw [ht]; exact (known_met r3 s.name).trans q1
      have hp : posF (fun y => ordTopic y t) x.topics = i := by rw [ht]; exact hpos
      unfold putInL
      rw [if_neg (by rw [hm]; simp), if_pos rfl, hp]; rfl
    rw [hput] at hact2
    have hapn := H9.cf.t.apn (f := Topic.vs) (fun _ _ _ h => h.1)
    refine cg_rows 27 [7, 19, 26] 2 (fun q => if q = 0 then 65 else if q = 1 then 77 else 84) (fun q => if q = 0 then i else if q = 1 then i + 1 else i + 1 + (x.topics.length - i)) (fun q => if q = 0 then (x.topics.take i).flatMap Topic.vs else if q = 1 then (x.topics.take i).flatMap Topic.vs ++ t.vs else (x.topics.take i).flatMap Topic.vs ++ t.vs ++ (x.topics.drop i).flatMap Topic.vs) 72 4
      (by kernel_rfl) (by kernel_rfl) rfl (by kernel_rfl) rfl (by rintro (_ | _ | _ | q) j h <;> first | (cases h; rfl) | simp at h) rfl ?_
    dsimp only [List.take]
    repeat (first | refine qcp ?_ | refine qcl ?_ | refine qcf ?_)
    refine wc_s (v := .slice a0 i c0) rfl (loc_det rfl (d_sl_lo rfl rfl rfl hbase hi hcap)) rfl ?_
    refine wc_e 0 rfl (effs_app0 (j := i) (news := (x.topics.take i).flatMap Topic.vs) rfl rfl rfl rfl rfl (.inl ⟨_, rfl, apn_lo topic_len hapn hi⟩) rfl rfl (by rw [fm_len _ 4 topic_len, List.length_take, Nat.min_eq_left (by omega)]) (fm_one _ topic_one _) (by kernel_rfl) rfl (by unfold maxLen; omega) (by omega)) ?_
    repeat (first | refine qcp ?_ | refine qcl ?_ | refine qcf ?_)
    refine wc_s rfl (loc_det rfl (d_lit (cells := t.vs) rfl rfl (by rw [ht]; rfl))) rfl ?_
    refine wc_iv rfl (loci_newN xr_size rfl (Le.refl _) (a_slice (cells := t.vs) rfl rfl rfl rfl (by kernel_rfl) rfl)) rfl ?_
    refine wc_e 1 rfl (effs_appS (j := 1) (news := t.vs) rfl rfl rfl rfl (by decide) (.inr ⟨_, _, rfl, rfl, fun k1 u _ h => by obtain ⟨g, e, hk, _⟩ := h; exact .inl ⟨g, 0, 1, e, cells_at (vs := t.vs) hk rfl⟩⟩) rfl rfl rfl (topic_one t) (by kernel_rfl) rfl (by show i + 1 ≤ _; unfold maxLen; omega) (by show (i + 1) * _ ≤ _; omega)) ?_
    repeat (first | refine qcp ?_ | refine qcl ?_ | refine qcf ?_)
    refine wc_s (v := .slice (hiA a0 c0 i 4) (x.topics.length - i) (c0 - i)) rfl (loc_det rfl (d_sl_hi rfl rfl rfl hbase hi hcap)) rfl ?_
    refine wc_e 2 rfl (effs_appS (j := x.topics.length - i) (news := (x.topics.drop i).flatMap Topic.vs) rfl rfl rfl rfl (by decide) (.inl ⟨_, rfl, apn_hi topic_len hapn hcap hi⟩) rfl rfl (by rw [fm_len _ 4 topic_len, List.length_drop]) (fm_one _ topic_one _) (by kernel_rfl) rfl (by show i + 1 + _ ≤ _; unfold maxLen; omega) (by show (i + 1 + _) * _ ≤ _; omega)) ?_
    refine wc_nil ?_
    intro k1 k4 vs hle1 hle14 hvs hfresh hrow
    have hrow : Row F.w0.heap.size k4 72 4 (vs 84) (x.topics.take i ++ ([t] ++ x.topics.drop i)).length ((x.topics.take i ++ ([t] ++ x.topics.drop i)).flatMap Topic.vs) := by
      have e1 : (x.topics.take i ++ ([t] ++ x.topics.drop i)).length = i + 1 + (x.topics.length - i) := by
        simp only [List.length_append, List.length_take, List.length_drop, List.length_singleton, Nat.min_eq_left hi]; omega
      have e2 : (x.topics.take i ++ ([t] ++ x.topics.drop i)).flatMap Topic.vs = (x.topics.take i).flatMap Topic.vs ++ t.vs ++ (x.topics.drop i).flatMap Topic.vs := by
        rw [List.flatMap_append, List.flatMap_append, List.append_assoc]; simp
      rw [e1, e2]
      exact hrow
    have hown : Own tTopic F.w0.heap.size k4 72 (vs 84) (x.topics.take i ++ ([t] ++ x.topics.drop i)) := Row.ownL (f := Topic.vs) hrow fun z hz => ⟨rfl, (List.mem_append.1 hz).elim (fun h => ok0 z (List.mem_of_mem_take h)) (fun h => (List.mem_append.1 h).elim (fun h => by simp at h; rw [h]; exact htok) (fun h => ok0 z (List.mem_of_mem_drop h)))⟩
    obtain ⟨a4, c4, ev, _⟩ := hown.sl
    rw [ev] at hown
    have H4 := H9.le (hle1.trans hle14)
    clear hvs hfresh hrow
    dsimp only [List.drop, set, argEnv, nameE, nameP]
    rw [ev]
    repeat (first | refine qsp ?_ | refine qsf ?_)
    refine rw0 rfl rfl rfl rfl rfl rfl rfl rfl H4.at' ?_ (hMb b rfl) ?_
    · show 1 < 5
      omega
    intro k5 ht5 hk5
    have H5 := H4.setT (hown.N_le hN0) ht5 rfl hk5
    repeat (first | refine cg_seq ?_ | refine cg_region ?_ | refine rg_nil ?_ | refine eg_then ?_ | refine qsp ?_ | refine cg_ret ?_ | refine eg_then_ret ?_ | refine eg_in_ret ?_)
    exact eg_return rfl rfl (postO hact2 H5)
  repeat (first | refine cg_seq ?_ | refine cg_region ?_ | refine rg_nil ?_ | refine eg_then ?_ | refine qsp ?_ | refine cg_cond_false rfl ?_)
  cases k2 : (s.kind == 2)
  rotate_left
  · have hkind : s.kind = 2 := by simpa using k2
    repeat (first | refine cg_seq ?_ | refine cg_region ?_ | refine rg_nil ?_ | refine eg_then ?_ | refine qsp ?_ | refine cg_cond_true rfl ?_)
    rw [topF_lt]
    cases q1 : knownC x s.name
    · repeat (first | refine cg_seq ?_ | refine cg_region ?_ | refine rg_nil ?_ | refine eg_then ?_ | refine qsp ?_ | refine cg_cond_true rfl ?_ | refine cg_ret ?_ | refine eg_then_ret ?_ | refine eg_in_ret ?_)
      refine eg_return rfl rfl (postE ?_)
      unfold actC; rw [if_neg (by omega), if_pos hkind, if_neg (by rw [q1]; simp)]
    obtain ⟨hlt, _⟩ := known_at r3 q1
    have hact : actC x s = .ok (dropR x (posF (fun t => cmpStr t.name s.name) x.topics) s.name) := by
      unfold actC
      rw [if_neg (by omega), if_pos hkind, if_pos q1, drop_topic r3 q1]
      rfl
    rw [topF_at r3 q1]
    repeat (first | refine cg_seq ?_ | refine cg_region ?_ | refine eg_then ?_ | refine qsp ?_ | refine qsl ?_ | refine qsf ?_ | refine cg_cond_false rfl ?_ | refine cg_skip ?_)
    refine rcmn (first := #[]) rfl rfl rfl rfl rfl rfl rfl hN0 (refDrop_ctm H hf _ hlt s.name) hMb ?_
    rintro v k5 hold ⟨rfl, hpost⟩
    repeat (first | refine cg_seq ?_ | refine cg_region ?_ | refine rg_nil ?_ | refine eg_then ?_ | refine qsp ?_ | refine cg_ret ?_ | refine eg_then_ret ?_ | refine eg_in_ret ?_)
    exact eg_return rfl rfl (by rw [hact]; exact ⟨rfl, hpost⟩)
  repeat (first | refine cg_seq ?_ | refine cg_region ?_ | refine rg_nil ?_ | refine eg_then ?_ | refine qsp ?_ | refine cg_cond_false rfl ?_)
  cases k3' : (s.kind == 3)
  rotate_left
  · have hkind : s.kind = 3 := by simpa using k3'
    repeat (first | refine cg_seq ?_ | refine cg_region ?_ | refine rg_nil ?_ | refine eg_then ?_ | refine qsp ?_ | refine cg_cond_true rfl ?_)
    rw [topF_lt]
    cases q1 : knownC x s.name
    · repeat (first | refine cg_seq ?_ | refine cg_region ?_ | refine rg_nil ?_ | refine eg_then ?_ | refine qsp ?_ | refine cg_cond_true rfl ?_ | refine cg_ret ?_ | refine eg_then_ret ?_ | refine eg_in_ret ?_)
      exact eg_return rfl rfl (postE (act_no3 hkind q1))
    obtain ⟨p, hlt, hp, hact⟩ := act_more hkind r3 q1
    rw [topF_at r3 q1, hp]
    obtain ⟨t, ht⟩ : ∃ t, x.topics[p] = t := ⟨_, rfl⟩
    rw [ht] at hact
    have htp := (r3 p hlt).1
    rw [ht] at htp
    obtain ⟨g, cap, cur, cx, ev, hNg, hkg, hpc, hcg, hrg, hset⟩ := H.t.cell (i := p) (j := 1) hlt (by decide) (fun _ _ _ _ h => h)
    simp only [Value.slice.injEq, true_and] at ev
    obtain ⟨rfl, rfl⟩ := ev
    have htok := hrg.2
    rw [ht] at htok
    have hcg2 := hcg
    rw [hrg.1, ht] at hcg2
    obtain ⟨y0, y1, y2, y3⟩ := Topic.parts hcg2
    repeat (first | refine cg_seq ?_ | refine eg_then ?_ | refine cg_cond_false rfl ?_ | refine cg_skip ?_)
    refine cg_any (by kernel_rfl) rfl ?_
    repeat (first | refine qwp ?_ | refine qwi ?_ | refine qwl ?_ | refine qwf ?_)
    cases z1 : decide (s.a ≤ t.partsV)
    rotate_left
    · repeat (first | refine qwp ?_ | refine qwo ?_ | (refine wn rfl ?_; refine eg_then ?_))
      repeat (first | refine cg_seq ?_ | refine cg_region ?_ | refine rg_nil ?_ | refine eg_then ?_ | refine qsp ?_ | refine cg_cond_true rfl ?_ | refine cg_ret ?_ | refine eg_then_ret ?_ | refine eg_in_ret ?_)
      refine eg_return rfl rfl (postE ?_)
      have := of_decide_eq_true z1
      rw [hact, if_neg]
      simp [inI]; omega
    repeat (first | refine qwp ?_ | refine qwl ?_ | refine qwf ?_ | (refine wn rfl ?_; refine eg_then ?_))
    cases z2 : decide (s.a > 6)
    rotate_left
    · skip
      repeat (first | refine cg_seq ?_ | refine cg_region ?_ | refine rg_nil ?_ | refine eg_then ?_ | refine qsp ?_ | refine cg_cond_true rfl ?_ | refine cg_ret ?_ | refine eg_then_ret ?_ | refine eg_in_ret ?_)
      refine eg_return rfl rfl (postE ?_)
      have := of_decide_eq_true z2
      rw [hact, if_neg]
      simp [inI]; omega
    rw [if_pos (by have := of_decide_eq_false z1; have := of_decide_eq_false z2; simp [inI]; omega)] at hact
    skip
    repeat (first | refine cg_seq ?_ | refine eg_then ?_ | refine cg_cond_false rfl ?_ | refine cg_skip ?_)
    refine cg_fresh 9 [] (by kernel_rfl) (by kernel_rfl) rfl rfl rfl ?_
    dsimp only [List.take]
    repeat (first | refine qfp ?_ | refine qfi ?_ | refine qfl ?_ | refine qff ?_)
    refine fs_nil ?_
    intro k6 vs6 hle6 _ _ _
    dsimp only [List.drop]
    simp only [nameE, nameP]
    refine rw0 rfl rfl rfl rfl rfl rfl rfl rfl (hle6 _ _ hkg) hpc (.inr (by rw [hFm]; exact .inr ⟨_, rfl, rfl⟩)) ?_
    intro k7 ht7 hk7
    have hnew := hset k7 (.int .i64 s.a) { t with partsV := s.a } (fun h a b => ht7 h (a.trans hle6) b) hk7 ⟨by rw [hrg.1, ht]; rfl, htok.1, hok.2.2.2.1, trivial, htok.2.2.2⟩
    rw [show x.topics.length = (x.topics.set p { t with partsV := s.a }).length by simp] at hnew
    repeat (first | refine cg_seq ?_ | refine cg_region ?_ | refine rg_nil ?_ | refine eg_then ?_ | refine qsp ?_ | refine cg_ret ?_ | refine eg_then_ret ?_ | refine eg_in_ret ?_)
    exact eg_return rfl rfl (postO hact ((H.le hle6).turnT ht7 (hle6 _ _ hkg) (by simp) hnew))
  repeat (first | refine cg_seq ?_ | refine cg_region ?_ | refine rg_nil ?_ | refine eg_then ?_ | refine qsp ?_ | refine cg_cond_false rfl ?_)
  cases k4 : (s.kind == 4)
  rotate_left
  · have hkind : s.kind = 4 := by simpa using k4
    repeat (first | refine cg_seq ?_ | refine cg_region ?_ | refine rg_nil ?_ | refine eg_then ?_ | refine qsp ?_ | refine cg_cond_true rfl ?_)
    rw [topF_lt]
    cases q1 : knownC x s.name
    · repeat (first | refine cg_seq ?_ | refine cg_region ?_ | refine rg_nil ?_ | refine eg_then ?_ | refine qsp ?_ | refine cg_cond_true rfl ?_ | refine cg_ret ?_ | refine eg_then_ret ?_ | refine eg_in_ret ?_)
      exact eg_return rfl rfl (postE (act_no4 hkind q1))
    obtain ⟨p, hlt, hp, hact⟩ := act_keep hkind r3 q1
    rw [topF_at r3 q1, hp]
    obtain ⟨t, ht⟩ : ∃ t, x.topics[p] = t := ⟨_, rfl⟩
    rw [ht] at hact
    have htp := (r3 p hlt).1
    rw [ht] at htp
    obtain ⟨g, cap, cur, cx, ev, hNg, hkg, hpc, hcg, hrg, hset⟩ := H.t.cell (i := p) (j := 3) hlt (by decide) (fun _ _ _ _ h => h)
    simp only [Value.slice.injEq, true_and] at ev
    obtain ⟨rfl, rfl⟩ := ev
    have htok := hrg.2
    rw [ht] at htok
    have hcg2 := hcg
    rw [hrg.1, ht] at hcg2
    obtain ⟨y0, y1, y2, y3⟩ := Topic.parts hcg2
    repeat (first | refine cg_seq ?_ | refine eg_then ?_ | refine cg_cond_false rfl ?_ | refine cg_skip ?_)
    refine cg_fresh 9 [] (by kernel_rfl) (by kernel_rfl) rfl rfl rfl ?_
    dsimp only [List.take]
    repeat (first | refine qfp ?_ | refine qfi ?_ | refine qfl ?_ | refine qff ?_)
    refine fs_nil ?_
    intro k6 vs6 hle6 _ _ _
    dsimp only [List.drop]
    simp only [nameE, nameP]
    refine rw0 rfl rfl rfl rfl rfl rfl rfl rfl (hle6 _ _ hkg) hpc (.inr (by rw [hFm]; exact .inr ⟨_, rfl, rfl⟩)) ?_
    intro k7 ht7 hk7
    have hnew := hset k7 (.int .i64 s.c) { t with keep := s.c } (fun h a b => ht7 h (a.trans hle6) b) hk7 ⟨by rw [hrg.1, ht]; rfl, htok.1, htok.2.1, trivial, hok.2.2.2.2.2⟩
    rw [show x.topics.length = (x.topics.set p { t with keep := s.c }).length by simp] at hnew
    repeat (first | refine cg_seq ?_ | refine cg_region ?_ | refine rg_nil ?_ | refine eg_then ?_ | refine qsp ?_ | refine cg_ret ?_ | refine eg_then_ret ?_ | refine eg_in_ret ?_)
    exact eg_return rfl rfl (postO hact ((H.le hle6).turnT ht7 (hle6 _ _ hkg) (by simp) hnew))
  repeat (first | refine cg_seq ?_ | refine cg_region ?_ | refine rg_nil ?_ | refine eg_then ?_ | refine qsp ?_ | refine cg_cond_false rfl ?_)
  cases k5 : (s.kind == 5)
  rotate_left
  · have hkind : s.kind = 5 := by simpa using k5
    repeat (first | refine cg_seq ?_ | refine cg_region ?_ | refine qsp ?_ | refine cg_cond_true rfl ?_)
    refine rs rfl rfl (loc_det rfl (d_load_agg (vs := s.vs) rfl rfl rfl rfl cs)) ?_
    refine rcmn (first := #[]) rfl rfl rfl rfl rfl rfl rfl hN0 (refRule_ctm H hf hr hok hs hkind) hMb ?_
    intro v k5 hold hpost
    repeat (first | refine rg_nil ?_ | refine eg_then ?_ | refine qsp ?_ | refine cg_ret ?_ | refine eg_then_ret ?_ | refine eg_in_ret ?_)
    exact eg_return rfl rfl hpost
  repeat (first | refine cg_seq ?_ | refine cg_region ?_ | refine rg_nil ?_ | refine eg_then ?_ | refine qsp ?_ | refine cg_cond_false rfl ?_)
  cases k6 : (s.kind == 6)
  rotate_left
  · have hkind : s.kind = 6 := by simpa using k6
    repeat (first | refine cg_seq ?_ | refine cg_region ?_ | refine qsp ?_ | refine cg_cond_true rfl ?_)
    refine rs rfl rfl (loc_det rfl (d_load_agg (vs := s.vs) rfl rfl rfl rfl cs)) ?_
    refine rcmn (first := #[]) rfl rfl rfl rfl rfl rfl rfl hN0 (refRate_ctm H hf hr hok hs hkind) hMb ?_
    intro v k5 hold hpost
    repeat (first | refine rg_nil ?_ | refine eg_then ?_ | refine qsp ?_ | refine cg_ret ?_ | refine eg_then_ret ?_ | refine eg_in_ret ?_)
    exact eg_return rfl rfl hpost
  have hkind : s.kind = 7 ∨ s.kind = 8 := by
    simp only [beq_eq_false_iff_ne] at k1 k2 k3' k4 k5 k6
    omega
  repeat (first | refine cg_seq ?_ | refine cg_region ?_ | refine eg_then ?_ | refine qsp ?_ | refine cg_cond_false rfl ?_ | refine cg_skip ?_ | refine eg_in_normal ?_)
  refine rs rfl rfl (loc_det rfl (d_load_agg (vs := s.vs) rfl rfl rfl rfl cs)) ?_
  refine rcmn (first := #[]) rfl rfl rfl rfl rfl rfl rfl hN0 (refWay_ctm H hf hr hok hs hkind) hMb ?_
  intro v k5 hold hpost
  repeat (first | refine rg_nil ?_ | refine eg_then ?_ | refine qsp ?_ | refine cg_ret ?_)
  exact eg_return rfl rfl hpost
end Go.Wm

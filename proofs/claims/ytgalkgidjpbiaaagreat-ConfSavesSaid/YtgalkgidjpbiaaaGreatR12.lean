/-
  A topic dropped, the document's. Conditions: that what is handed in reads as data.
-/
import Derived.Test.YtgalkgidjpbiaaaGreatR11
set_option linter.all false
namespace Go.Wm
open Go.RowKit Go.Proofs
attribute [local irreducible] RG CG EG WA Loc Det Alc CT Exit.then Exit.inBlock Code.wp bodyPost
theorem apn_take {α : Type} {f : α → List Value} {sz : Nat} (hf : ∀ x, (f x).length = sz) {k : PH} {bx ox c p : Nat} {l : List α} (h : Cells k bx ox (l.flatMap f)) : Apn k (.slice (some ⟨bx, ox, none⟩) p c) p ((l.take p).flatMap f) := by
  refine .inl ⟨bx, ox, c, rfl, ?_⟩
  have := h.sub (us := (l.take p).flatMap f) 0 fun i v hv => by
    have e : l.flatMap f = (l.take p).flatMap f ++ (l.drop p).flatMap f := by rw [← List.flatMap_append, List.take_append_drop]
    rw [e, Nat.zero_add, List.getElem?_append_left (List.getElem?_eq_some_iff.1 hv).1]
    exact hv
  exact this
theorem apn_drop {α : Type} {f : α → List Value} {sz : Nat} (hf : ∀ x, (f x).length = sz) {k : PH} {bx ox c p n : Nat} {l : List α} (h : Cells k bx ox (l.flatMap f)) (hn : l.length = n) (hc : n ≤ c) (hp : p ≤ n) : Apn k (.slice (some ⟨bx, if c = p then ox else ox + p * sz, none⟩) (n - p) (c - p)) (n - p) ((l.drop p).flatMap f) := by
  by_cases e : c = p
  · have h0 : n - p = 0 := by omega
    rw [h0]
    refine .inr ⟨rfl, ?_, _, _, rfl⟩
    rw [List.drop_eq_nil_of_le (by omega)]; rfl
  · rw [if_neg e]
    refine .inl ⟨bx, _, _, rfl, ?_⟩
    refine h.sub (p * sz) fun i v hv => ?_
    have e : l.flatMap f = (l.take p).flatMap f ++ (l.drop p).flatMap f := by rw [← List.flatMap_append, List.take_append_drop]
    have e2 : ((l.take p).flatMap f).length = p * sz := by rw [fm_len f sz hf, List.length_take, Nat.min_eq_left (by omega)]
    rw [e, List.getElem?_append_right (by omega), e2, Nat.add_sub_cancel_left]
    exact hv
theorem det_cast {P : Program} {e : Env} {k : PH} {o : Oper} {v v' : Value} (h : v = v') (hd : Det P e k o v) : Det P e k o v' := h ▸ hd
/-- The lists behind a topic's drop. -/
def dropR (x : Conf) (p : Nat) (nm : ByteArray) : Conf := { x with topics := x.topics.take p ++ x.topics.drop (p + 1), rules := x.rules.filter fun y => !decide (y.topic = nm), ways := x.ways.filter fun y => !decide (y.topic = nm) }
set_option maxHeartbeats 8000000 in
theorem refDrop_ctm {N : Nat} {k : PH} {b : Nat} {x : Conf} {a0 : Option Addr} {c0 : Nat} {a1 : Option Addr} {c1 : Nat} {a2 : Option Addr} {c2 : Nat} {a3 : Option Addr} {c3 : Nat} (H : OwnC N k b x a0 c0 a1 c1 a2 c2 a3 c3) (hf : x.few) (p : Nat) (hlt : p < x.topics.length) (nm : ByteArray) :
    CTMN Tryz.prog 192 #[.pointer (some ⟨b, 0, none⟩), .int .i64 (p : Int), .string nm] k N (fun g => g = b) (fun k v => v = .tuple #[] ∧ ∃ a0 c0 a1 c1 a2 c2 a3 c3, OwnC N k b (dropR x p nm) a0 c0 a1 c1 a2 c2 a3 c3) := by
  refine ctmn_of_body (l := [_, _, _]) Tryz.func192 rfl Tryz.ntmps192 (by simp) fun F hF0 hFm hN0 hlt0 => ?_
  have hmu : F.mu b := by rw [hFm]
  have hf0 := hf.1; have hf1 := hf.2.1; have hf3 := hf.2.2.2
  have ok0 : ∀ z ∈ x.topics, z.ok := fun z hz => (sl_ok H.cf.t hz).elim fun _ h => h.2
  have ok1 : ∀ z ∈ x.rules, z.ok := fun z hz => (sl_ok H.cf.r hz).elim fun _ h => h.2
  have ok3 : ∀ z ∈ x.ways, z.ok := fun z hz => (sl_ok H.cf.w hz).elim fun _ h => h.2
  obtain ⟨bt, ot, ct, et, hct⟩ : ∃ bt ot ct, a0 = some ⟨bt, ot, none⟩ ∧ c0 = ct ∧ Cells k bt ot (x.topics.flatMap Topic.vs) := by
    rcases H.cf.t.apn (f := Topic.vs) (fun _ _ _ h => h.1) with ⟨bx, ox, c, e, hc⟩ | ⟨e, _⟩
    · simp only [Value.slice.injEq, true_and] at e
      exact ⟨bx, ox, c, e.1, e.2, hc⟩
    · omega
  obtain ⟨rfl, hct⟩ := hct
  subst et
  have hcap := H.cf.t.cap
  obtain ⟨p0, p1, p2, p3, p4⟩ := Conf.parts H.cells
  repeat (first | refine cg_seq ?_)
  refine cg_rows 16 [7, 15] 1 (fun q => if q = 0 then 19 else 27) (fun q => if q = 0 then p else p + (x.topics.length - (p + 1))) (fun q => if q = 0 then (x.topics.take p).flatMap Topic.vs else (x.topics.take p).flatMap Topic.vs ++ (x.topics.drop (p + 1)).flatMap Topic.vs) 72 4
    (by kernel_rfl) (by kernel_rfl) rfl (by kernel_rfl) rfl (by rintro (_ | _ | q) j h <;> first | (cases h; rfl) | simp at h) rfl ?_
  dsimp only [List.take]
  repeat (first | refine qcp ?_ | refine qcl ?_ | refine qcf ?_)
  refine wc_s (v := .slice (some ⟨bt, ot, none⟩) p c0) rfl (loc_det rfl (det_cast (by simp [ob]) (d_slice (l := none) (h := some p) rfl rfl trivial ⟨_, rfl⟩ (Nat.zero_le _) (by show p ≤ c0; omega) hcap))) rfl ?_
  refine wc_e 0 rfl (effs_app0 (j := p) (news := (x.topics.take p).flatMap Topic.vs) rfl rfl rfl rfl rfl (.inl ⟨_, rfl, apn_take topic_len hct⟩) rfl rfl (by rw [fm_len _ 4 topic_len, List.length_take, Nat.min_eq_left (by omega)]) (fm_one _ topic_one _) (by kernel_rfl) rfl (by unfold maxLen; omega) (by omega)) ?_
  repeat (first | refine qcp ?_ | refine qca ?_ | refine qcl ?_ | refine qcf ?_)
  refine wc_s (v := .slice (some ⟨bt, if c0 = p + 1 then ot else ot + (p + 1) * 4, none⟩) (x.topics.length - (p + 1)) (c0 - (p + 1))) rfl (loc_det rfl (d_slice (l := some (p + 1)) (h := none) rfl rfl ⟨_, rfl⟩ trivial (by show p + 1 ≤ x.topics.length; omega) hcap hcap)) rfl ?_
  refine wc_e 1 rfl (effs_appS (j := x.topics.length - (p + 1)) (news := (x.topics.drop (p + 1)).flatMap Topic.vs) rfl rfl rfl rfl (by decide) (.inl ⟨_, rfl, apn_drop topic_len hct rfl hcap (by omega)⟩) rfl rfl (by rw [fm_len _ 4 topic_len, List.length_drop]) (fm_one _ topic_one _) (by kernel_rfl) rfl (by show p + _ ≤ _; unfold maxLen; omega) (by show (p + _) * _ ≤ _; omega)) ?_
  refine wc_nil ?_
  intro k1 k4 vs hle1 hle14 hvs hfresh hrow
  have hrow : Row F.w0.heap.size k4 72 4 (vs 27) (x.topics.take p ++ x.topics.drop (p + 1)).length ((x.topics.take p ++ x.topics.drop (p + 1)).flatMap Topic.vs) := by
    have e1 : (x.topics.take p ++ x.topics.drop (p + 1)).length = p + (x.topics.length - (p + 1)) := by
      rw [List.length_append, List.length_take, List.length_drop, Nat.min_eq_left (by omega)]
    rw [e1, List.flatMap_append]
    exact hrow
  have hown : Own tTopic F.w0.heap.size k4 72 (vs 27) (x.topics.take p ++ x.topics.drop (p + 1)) := Row.ownL (f := Topic.vs) hrow fun z hz => ⟨rfl, (List.mem_append.1 hz).elim (fun h => ok0 z (List.mem_of_mem_take h)) (fun h => ok0 z (List.mem_of_mem_drop h))⟩
  obtain ⟨a4, c4, ev, _⟩ := hown.sl
  rw [ev] at hown
  have H4 := H.le (hle1.trans hle14)
  clear hvs hfresh hrow
  dsimp only [List.drop, set, argEnv, nameE, nameP]
  rw [ev]
  repeat (first | refine qsp ?_ | refine qsf ?_)
  refine rw0 rfl rfl rfl rfl rfl rfl rfl rfl H4.at' ?_ (.inr hmu) ?_
  · show 1 < 5
    omega
  intro k5 ht5 hk5
  have H5 := H4.setT (hown.N_le hN0) ht5 rfl hk5
  obtain ⟨cA, hy⟩ : ∃ cA : Conf, cA = { x with topics := x.topics.take p ++ x.topics.drop (p + 1) } := ⟨_, rfl⟩
  rw [← hy] at H5
  have ey : dropR x p nm = { cA with rules := cA.rules.filter fun q0 => !decide (q0.topic = nm), ways := cA.ways.filter fun q0 => !decide (q0.topic = nm) } := by rw [hy]; rfl
  have fy1 : cA.rules.length ≤ 1000000 := by rw [hy]; exact hf1
  have fy3 : cA.ways.length ≤ 1000000 := by rw [hy]; exact hf3
  have oy1 : ∀ q0 ∈ cA.rules, q0.ok := by rw [hy]; exact ok1
  have oy3 : ∀ q0 ∈ cA.ways, q0.ok := by rw [hy]; exact ok3
  rw [ey]
  clear H H4
  have H := H5
  obtain ⟨p0, p1, p2, p3, p4⟩ := Conf.parts H.cells
  repeat (first | refine cg_seq ?_ | refine cg_region ?_ | refine rg_nil ?_ | refine eg_then ?_ | refine qsp ?_ | refine qsn ?_ | refine qsl ?_ | refine qsf ?_ | refine cg_block ?_)
  refine cg_loop (fun (i : Nat) e k' => ∃ v, Le k5 k' ∧ Apart k5 v ∧ Row F.w0.heap.size k' 74 3 v ((cA.rules.take i).filter (fun y => !decide (y.topic = nm))).length (((cA.rules.take i).filter (fun y => !decide (y.topic = nm))).flatMap Rule.vs) ∧ i ≤ cA.rules.length ∧ e = [(0, .is (.pointer (some ⟨b, 0, none⟩))), (2, .is (.string nm)), (6, .is v), (33, .is (.slice a1 cA.rules.length c1)), (34, .is (.int .i64 (cA.rules.length : Int))), (35, .is (.int .i64 (i : Int)))])
    (fun i => cA.rules.length - i) 0 ⟨.slice none 0 0, Le.refl _, apart_nil _ _ _, by simpa using row_nil F.w0.heap.size k5 74 3, Nat.zero_le _, rfl⟩ ⟨rfl, rfl, rfl, rfl, rfl, rfl, trivial⟩ ?_
  rintro i e k9 ⟨v9, hle9, hap9, hrow9, hi, rfl⟩
  repeat (first | refine cg_seq ?_ | refine cg_region ?_ | refine rg_nil ?_ | refine eg_then ?_ | refine qsp ?_)
  refine cg_cond rfl (fun h => ?_) (fun h => ?_)
  · have hlt : i < cA.rules.length := by simpa using h
    have hfs := filter_succ (fun y => !decide (y.topic = nm)) hlt
    obtain ⟨y, hy⟩ : ∃ y, cA.rules[i] = y := ⟨_, rfl⟩
    rw [hy] at hfs
    obtain ⟨bx, ox, cx, ea, ⟨ecx, hyok⟩, hcx⟩ := (H.cf.r.le hle9).el i y (by rw [List.getElem?_eq_getElem hlt, hy])
    subst ecx
    subst ea
    have hm : ((cA.rules.take i).filter (fun y => !decide (y.topic = nm))).length ≤ 1000000 := by
      have := List.length_filter_le (fun y => !decide (y.topic = nm)) (cA.rules.take i); have := List.length_take_le i cA.rules; omega
    repeat (first | refine cg_seq ?_ | refine cg_region ?_ | refine eg_then ?_ | refine qsi ?_ | refine qsg ?_ | refine cg_skip ?_ | refine cg_block ?_)
    refine rb rfl rfl rfl rfl (a_alloc rfl) ?_; intro b10 k10 hb10 hN10 hle10 hk10
    refine rw1 (vs := y.vs) rfl rfl rfl rfl rfl rfl rfl hk10 rfl (.inl hN10) ?_ ?_
    · simp [Rule.vs, Value.oneCell']
    intro k11 ht11 hk11
    have hle11 : Le k9 k11 := ht11 k9 hle10 hb10
    have hrow11 := hrow9.le hle11
    have hle12 := hle9.trans hle11
    have cy := cells_at (vs := y.vs) hk11 rfl
    obtain ⟨y0, y1, y2⟩ := Rule.parts cy
    repeat (first | refine cg_seq ?_ | refine cg_region ?_ | refine rg_nil ?_ | refine eg_then ?_ | refine qsp ?_ | refine qsl ?_ | refine qsf ?_)
    cases q : decide (y.topic = nm)
    rotate_left
    · repeat (first | refine cg_region ?_ | refine rg_nil ?_ | refine eg_then ?_ | refine qsp ?_ | refine qsa ?_ | refine cg_cond_false rfl ?_ | refine cg_skip ?_ | refine eg_in_normal ?_)
      refine eg_again (i + 1) _ ⟨v9, hle12, hap9, ?_, hlt, rfl⟩ (by omega) ⟨rfl, rfl, rfl, rfl, rfl, rfl, trivial⟩
      rw [hfs, if_neg (by simp [q]), List.append_nil]; exact hrow11
    · repeat (first | refine cg_region ?_ | refine qsp ?_ | refine cg_cond_true rfl ?_)
      refine rs rfl rfl (loc_det rfl (d_load_agg (vs := y.vs) rfl rfl rfl rfl cy)) ?_
      refine rb rfl rfl rfl rfl (a_slice (cells := y.vs) rfl rfl rfl rfl (by kernel_rfl) rfl) ?_; intro b13 k13 hb13 hN13 hle13 hk13
      refine rap rfl rfl rfl rfl rfl rfl rfl (hrow11.le hle13) (cells_at (vs := y.vs) hk13 rfl) rfl ?_ rfl rfl (by unfold maxLen; omega) (by omega) ?_
      · simp [Rule.vs, Value.oneCell']
      intro v14 k14 hrow14 ht14
      obtain ⟨hle14, hap14⟩ := ht14 k5 (hle12.trans hle13) hap9
      repeat (first | refine cg_region ?_ | refine rg_nil ?_ | refine eg_then ?_ | refine qsp ?_ | refine qsa ?_ | refine eg_in_normal ?_)
      refine eg_again (i + 1) _ ⟨v14, hle14, hap14, ?_, hlt, rfl⟩ (by omega) ⟨rfl, rfl, rfl, rfl, rfl, rfl, trivial⟩
      rw [hfs, if_pos (by simp [q]), List.length_append, List.flatMap_append]
      simpa using hrow14
  have hil : i = cA.rules.length := by simp at h; omega
  rw [hil, List.take_length] at hrow9
  clear h hi hil
  have hown : Own tRule F.w0.heap.size k9 74 v9 (cA.rules.filter fun q0 => !decide (q0.topic = nm)) := Row.ownL (f := Rule.vs) hrow9 fun q0 hq0 => ⟨rfl, oy1 q0 (List.mem_filter.1 hq0).1⟩
  obtain ⟨a9, c9, rfl, _⟩ := hown.sl
  have H9 := H.le hle9
  repeat (first | refine cg_seq ?_ | refine cg_region ?_ | refine eg_then ?_ | refine qsp ?_ | refine qsf ?_ | refine cg_exit ?_ | refine eg_then_exit ?_ | refine eg_in_exit ?_)
  refine rw0 rfl rfl rfl rfl rfl rfl rfl rfl H9.at' ?_ (.inr hmu) ?_
  · show 2 < 5
    omega
  intro k6 ht6 hk6
  have H6 := H9.setR (hown.N_le hN0) ht6 rfl hk6
  obtain ⟨cB, hz⟩ : ∃ cB : Conf, cB = { cA with rules := cA.rules.filter fun q0 => !decide (q0.topic = nm) } := ⟨_, rfl⟩
  rw [← hz] at H6
  have ez : ({ cA with rules := cA.rules.filter fun q0 => !decide (q0.topic = nm), ways := cA.ways.filter fun q0 => !decide (q0.topic = nm) } : Conf) = { cB with ways := cB.ways.filter fun q0 => !decide (q0.topic = nm) } := by rw [hz]
  rw [ez]
  have fz3 : cB.ways.length ≤ 1000000 := by rw [hz]; exact fy3
  have oz3 : ∀ u ∈ cB.ways, u.ok := by rw [hz]; exact oy3
  clear H H9 H5 hown hrow9 hap9 hle9
  have H := H6
  obtain ⟨p0, p1, p2, p3, p4⟩ := Conf.parts H.cells
  repeat (first | refine cg_seq ?_ | refine cg_region ?_ | refine rg_nil ?_ | refine eg_then ?_ | refine qsp ?_ | refine qsn ?_ | refine qsl ?_ | refine qsf ?_ | refine cg_block ?_)
  refine cg_loop (fun (i : Nat) e k' => ∃ v, Le k6 k' ∧ Apart k6 v ∧ Row F.w0.heap.size k' 78 3 v ((cB.ways.take i).filter (fun y => !decide (y.topic = nm))).length (((cB.ways.take i).filter (fun y => !decide (y.topic = nm))).flatMap Way.vs) ∧ i ≤ cB.ways.length ∧ e = [(0, .is (.pointer (some ⟨b, 0, none⟩))), (2, .is (.string nm)), (9, .is v), (55, .is (.slice a3 cB.ways.length c3)), (56, .is (.int .i64 (cB.ways.length : Int))), (57, .is (.int .i64 (i : Int)))])
    (fun i => cB.ways.length - i) 0 ⟨.slice none 0 0, Le.refl _, apart_nil _ _ _, by simpa using row_nil F.w0.heap.size k6 78 3, Nat.zero_le _, rfl⟩ ⟨rfl, rfl, rfl, rfl, rfl, rfl, trivial⟩ ?_
  rintro i e k9 ⟨v9, hle9, hap9, hrow9, hi, rfl⟩
  repeat (first | refine cg_seq ?_ | refine cg_region ?_ | refine rg_nil ?_ | refine eg_then ?_ | refine qsp ?_)
  refine cg_cond rfl (fun h => ?_) (fun h => ?_)
  · have hlt : i < cB.ways.length := by simpa using h
    have hfs := filter_succ (fun y => !decide (y.topic = nm)) hlt
    obtain ⟨y, hy⟩ : ∃ y, cB.ways[i] = y := ⟨_, rfl⟩
    rw [hy] at hfs
    obtain ⟨bx, ox, cx, ea, ⟨ecx, hyok⟩, hcx⟩ := (H.cf.w.le hle9).el i y (by rw [List.getElem?_eq_getElem hlt, hy])
    subst ecx
    subst ea
    have hm : ((cB.ways.take i).filter (fun y => !decide (y.topic = nm))).length ≤ 1000000 := by
      have := List.length_filter_le (fun y => !decide (y.topic = nm)) (cB.ways.take i); have := List.length_take_le i cB.ways; omega
    repeat (first | refine cg_seq ?_ | refine cg_region ?_ | refine eg_then ?_ | refine qsi ?_ | refine qsg ?_ | refine cg_skip ?_ | refine cg_block ?_)
    refine rb rfl rfl rfl rfl (a_alloc rfl) ?_; intro b10 k10 hb10 hN10 hle10 hk10
    refine rw1 (vs := y.vs) rfl rfl rfl rfl rfl rfl rfl hk10 rfl (.inl hN10) ?_ ?_
    · simp [Way.vs, Value.oneCell']
    intro k11 ht11 hk11
    have hle11 : Le k9 k11 := ht11 k9 hle10 hb10
    have hrow11 := hrow9.le hle11
    have hle12 := hle9.trans hle11
    have cy := cells_at (vs := y.vs) hk11 rfl
    obtain ⟨y0, y1, y2⟩ := Way.parts cy
    repeat (first | refine cg_seq ?_ | refine cg_region ?_ | refine rg_nil ?_ | refine eg_then ?_ | refine qsp ?_ | refine qsl ?_ | refine qsf ?_)
    cases q : decide (y.topic = nm)
    rotate_left
    · repeat (first | refine cg_region ?_ | refine rg_nil ?_ | refine eg_then ?_ | refine qsp ?_ | refine qsa ?_ | refine cg_cond_false rfl ?_ | refine cg_skip ?_ | refine eg_in_normal ?_)
      refine eg_again (i + 1) _ ⟨v9, hle12, hap9, ?_, hlt, rfl⟩ (by omega) ⟨rfl, rfl, rfl, rfl, rfl, rfl, trivial⟩
      rw [hfs, if_neg (by simp [q]), List.append_nil]; exact hrow11
    · repeat (first | refine cg_region ?_ | refine qsp ?_ | refine cg_cond_true rfl ?_)
      refine rs rfl rfl (loc_det rfl (d_load_agg (vs := y.vs) rfl rfl rfl rfl cy)) ?_
      refine rb rfl rfl rfl rfl (a_slice (cells := y.vs) rfl rfl rfl rfl (by kernel_rfl) rfl) ?_; intro b13 k13 hb13 hN13 hle13 hk13
      refine rap rfl rfl rfl rfl rfl rfl rfl (hrow11.le hle13) (cells_at (vs := y.vs) hk13 rfl) rfl ?_ rfl rfl (by unfold maxLen; omega) (by omega) ?_
      · simp [Way.vs, Value.oneCell']
      intro v14 k14 hrow14 ht14
      obtain ⟨hle14, hap14⟩ := ht14 k6 (hle12.trans hle13) hap9
      repeat (first | refine cg_region ?_ | refine rg_nil ?_ | refine eg_then ?_ | refine qsp ?_ | refine qsa ?_ | refine eg_in_normal ?_)
      refine eg_again (i + 1) _ ⟨v14, hle14, hap14, ?_, hlt, rfl⟩ (by omega) ⟨rfl, rfl, rfl, rfl, rfl, rfl, trivial⟩
      rw [hfs, if_pos (by simp [q]), List.length_append, List.flatMap_append]
      simpa using hrow14
  have hil : i = cB.ways.length := by simp at h; omega
  rw [hil, List.take_length] at hrow9
  clear h hi hil
  have hown : Own tWay F.w0.heap.size k9 78 v9 (cB.ways.filter fun q0 => !decide (q0.topic = nm)) := Row.ownL (f := Way.vs) hrow9 fun u hu => ⟨rfl, oz3 u (List.mem_filter.1 hu).1⟩
  obtain ⟨a9, c9, rfl, _⟩ := hown.sl
  have H9 := H.le hle9
  repeat (first | refine cg_region ?_ | refine eg_then ?_ | refine qsp ?_ | refine qsf ?_ | refine cg_exit ?_ | refine eg_then_exit ?_ | refine eg_in_exit ?_)
  refine rw0 rfl rfl rfl rfl rfl rfl rfl rfl H9.at' ?_ (.inr hmu) ?_
  · show 4 < 5
    omega
  intro k7 ht7 hk7
  repeat (first | refine rg_nil ?_)
  exact eg_done rfl ⟨rfl, _, _, _, _, _, _, _, _, H9.setW (hown.N_le hN0) ht7 rfl hk7⟩
end Go.Wm

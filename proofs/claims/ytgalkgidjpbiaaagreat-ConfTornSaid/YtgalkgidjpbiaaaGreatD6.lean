/-
  What is done at a topic's place, the table of what the kinds of steps do, the program's. Conditions: that what is handed in reads as data.
-/
import Derived.Test.YtgalkgidjpbiaaaGreatD5
set_option linter.all false
namespace Go.Wm
open Go.RowKit Go.Proofs
attribute [local irreducible] RG CG EG WA Loc Det Alc CT Exit.then Exit.inBlock Code.wp bodyPost
instance : TyU Tryz.prog 171 (.func #[100, 35, 3] #[36] false) := ⟨Tryz.underlying171⟩
abbrev encI : Int → Value := fun x => .int .i64 x
set_option maxHeartbeats 1000000 in
theorem of_ctm {N : Nat} {k : PH} {b B : Nat} {x : Conf} {a0 : Option Addr} {c0 : Nat} {a1 : Option Addr} {c1 : Nat} {a2 : Option Addr} {c2 : Nat} {a3 : Option Addr} {c3 : Nat} {s : Step} {g : FuncId} [FnOk Tryz.prog g] (H : OwnC N k b x a0 c0 a1 c1 a2 c2 a3 c3) (hf : x.few) (hr : confP x = true) (hok : s.ok)
    (hB : Cells k B 0 [.func (.func g) #[] #[]]) (nm : ByteArray) (hnm : s.name ++ s.topic = nm) (hsz : s.name.size + s.topic.size ≤ 1000000) (hErr : knownC x nm = false → actC x s = .error 190)
    (hin : knownC x nm = true → ∀ k', Le k k' → CTMN Tryz.prog g (#[] ++ [.pointer (some ⟨b, 0, none⟩), .agg s.vs.toArray, .int .i64 (posF (fun t => cmpStr t.name nm) x.topics : Int)].toArray ++ #[]) k' N (fun g => g = b) (PostC N b (actC x s))) :
    CTMN Tryz.prog 125 #[.pointer (some ⟨b, 0, none⟩), .agg s.vs.toArray, .pointer (some ⟨B, 0, none⟩)] k N (fun g => g = b) (PostC N b (actC x s)) := by
  refine ctmn_of_body (l := [_, _, _]) Tryz.func125 rfl Tryz.ntmps125 (by simp) fun F hF0 hFm hN0 hlt0 => ?_
  have hmu : F.mu b := by rw [hFm]
  obtain ⟨r1, r2, r3, r4, r5, r6⟩ := conf_parts hr
  repeat (first | refine cg_seq ?_ | refine cg_region ?_)
  refine rb rfl rfl rfl rfl (a_box rfl rfl) ?_; intro b3 k3 hb3 hN3 hle3 hk3
  have H := H.le hle3
  have c := H.cells
  have hB := hB.le hle3
  have cs := cells_at (vs := s.vs) hk3 rfl
  obtain ⟨s0, s1, s2, s3, s4, s5⟩ := Step.parts cs
  repeat (first | refine cg_seq ?_ | refine rg_nil ?_ | refine eg_then ?_ | refine qsp ?_)
  refine cg_any (by kernel_rfl) rfl ?_
  repeat (first | refine qwp ?_ | refine qwl ?_ | refine qwg ?_ | refine qwf ?_)
  refine ws rfl (loc_det rfl (d_concat rfl rfl rfl hsz)) ?_
  rw [hnm]
  skip
  refine ws rfl (loc_call_is rfl rfl rfl rfl (find_ct a1 c1 a2 c2 a3 c3 H.cf.t hf.1 nm r3)) ?_
  repeat (first | refine qwp ?_ | (refine wn rfl ?_; refine eg_then ?_))
  repeat (first | refine cg_seq ?_ | refine cg_region ?_ | refine rg_nil ?_ | refine eg_then ?_ | refine qsp ?_)
  cases q : knownC x nm
  · repeat (first | refine cg_seq ?_ | refine cg_region ?_ | refine rg_nil ?_ | refine eg_then ?_ | refine qsp ?_ | refine cg_cond_true rfl ?_ | refine cg_ret ?_ | refine eg_then_ret ?_)
    exact eg_return rfl rfl (postE (hErr q))
  repeat (first | refine cg_seq ?_ | refine cg_region ?_ | refine eg_then ?_ | refine qsp ?_ | refine qsl ?_ | refine cg_cond_false rfl ?_ | refine cg_skip ?_)
  refine qsg (hc := cs) ?_
  repeat (first | refine qsp ?_)
  refine rcmn rfl rfl rfl rfl rfl rfl rfl hN0 (hin q k3 hle3) (fun g h => .inr (by rw [hFm]; exact h)) ?_
  intro v k4 _ hpost
  repeat (first | refine rg_nil ?_ | refine eg_then ?_ | refine qsp ?_ | refine cg_ret ?_)
  exact eg_return rfl rfl hpost
set_option maxHeartbeats 400000 in
theorem does1_ct {k : PH} (g : FuncId) : CT Tryz.prog 124 #[.func (.func g) #[] #[]] k (fun k' v => ∃ B, v = .func (.func 125) #[] #[.pointer (some ⟨B, 0, none⟩)] ∧ Cells k' B 0 [.func (.func g) #[] #[]]) := by
  refine ct_of_body (l := [_]) Tryz.func124 rfl Tryz.ntmps124 (by simp) (fun k k' v hle ⟨B, h1, h2⟩ => ⟨B, h1, h2.le hle⟩) fun F hF0 hFm => ?_
  repeat (first | refine cg_seq ?_ | refine cg_region ?_)
  refine rb rfl rfl rfl rfl (a_box rfl rfl) ?_; intro b3 k3 hb3 hN3 hle3 hk3
  repeat (first | refine cg_seq ?_ | refine cg_region ?_ | refine rg_nil ?_ | refine eg_then ?_ | refine qsp ?_ | refine cg_ret ?_)
  exact eg_return rfl rfl ⟨b3, rfl, cells_at hk3 rfl⟩
/-- What is known of the function that does steps of kind n. -/
def StepCT (n : Int) (g : FuncId) (cap : Array Value) (k : PH) : Prop := FnOk Tryz.prog g ∧ ∀ k', Le k k' → ∀ N b x a0 c0 a1 c1 a2 c2 a3 c3 s, OwnC N k' b x a0 c0 a1 c1 a2 c2 a3 c3 → x.few → confP x = true → s.ok → formS s = true → s.kind = n →
  CTMN Tryz.prog g (#[] ++ [.pointer (some ⟨b, 0, none⟩), .agg s.vs.toArray].toArray ++ cap) k' N (fun g => g = b) (PostC N b (actC x s))
theorem StepCT.le {n : Int} {g : FuncId} {cap : Array Value} {k k' : PH} (h : StepCT n g cap k) (hl : Le k k') : StepCT n g cap k' := ⟨h.1, fun k2 h2 => h.2 k2 (hl.trans h2)⟩
theorem is_size {s : ByteArray} (h : isName s = true) : 1 ≤ s.size ∧ s.size ≤ 64 := by
  simp only [isName, Bool.and_eq_true, decide_eq_true_eq] at h
  exact h.2
theorem form_name {s : Step} (h : formS s = true) (hk : s.kind = 2 ∨ s.kind = 3 ∨ s.kind = 4) : isName s.name = true ∧ s.topic = ⟨#[]⟩ := by
  rcases hk with hk | hk | hk <;> simp [formS, useK, hk, textU] at h <;> exact ⟨h.1, h.2.1⟩
theorem form_way {s : Step} (h : formS s = true) (hk : s.kind = 7 ∨ s.kind = 8) : s.name = ⟨#[]⟩ ∧ isName s.topic = true := by
  rcases hk with hk | hk <;> simp [formS, useK, hk, textU] at h <;> exact ⟨h.1, h.2.1⟩
theorem form_rate {s : Step} (h : formS s = true) (hk : s.kind = 6) : 0 ≤ s.a ∧ 0 ≤ s.b := by
  simp [formS, useK, hk, textU, numU, inI] at h
  omega
theorem form_kind {s : Step} (h : formS s = true) : 1 ≤ s.kind ∧ s.kind ≤ 8 := by
  unfold formS at h
  split at h
  · cases h
  · rename_i heq
    unfold useK at heq
    repeat' split at heq
    all_goals first | omega | cases heq
theorem step_at {n : Int} {k : PH} {B : Nat} {g : FuncId} [FnOk Tryz.prog g] (hB : Cells k B 0 [.func (.func g) #[] #[]]) (hn : n = 2 ∨ n = 3 ∨ n = 4)
    (hg : ∀ {N : Nat} {k : PH} {b : Nat} {x : Conf} {a0 : Option Addr} {c0 : Nat} {a1 : Option Addr} {c1 : Nat} {a2 : Option Addr} {c2 : Nat} {a3 : Option Addr} {c3 : Nat} {s : Step}, OwnC N k b x a0 c0 a1 c1 a2 c2 a3 c3 → x.few → confP x = true → s.ok → s.kind = n → knownC x s.name = true →
      CTMN Tryz.prog g #[.pointer (some ⟨b, 0, none⟩), .agg s.vs.toArray, .int .i64 (posF (fun t => cmpStr t.name s.name) x.topics : Int)] k N (fun g => g = b) (PostC N b (actC x s))) :
    StepCT n 125 #[.pointer (some ⟨B, 0, none⟩)] k := by
  refine ⟨inferInstance, fun k' hle N b x a0 c0 a1 c1 a2 c2 a3 c3 s H hf hr hok hs hk => ?_⟩
  subst hk
  obtain ⟨h1, h2⟩ := form_name hs hn
  have := is_size h1
  refine of_ctm (g := g) H hf hr hok (hB.le hle) s.name ?_ ?_ ?_ ?_
  · rw [h2]; exact ByteArray.append_empty
  · rw [h2]; show _ + 0 ≤ _; omega
  · intro hk
    unfold actC
    rcases hn with hn | hn | hn
    · simp [hn, hk]
    · have hnone : x.topics.find? (fun t => decide (t.name = s.name)) = none := by
        rw [List.find?_eq_none]
        intro t ht
        have := List.any_eq_false.1 hk t ht
        simpa using this
      rw [if_neg (by omega), if_neg (by omega), if_pos hn, hnone]
    · simp [hn, hk]
  · intro hk k2 hle2
    exact hg (H.le hle2) hf hr hok rfl hk
/-- The table. -/
def DoesV (k : PH) (v : Value) : Prop := ∃ r kv, v = .map (some r) ∧ MapAt encI k r kv ∧ ∀ n : Int, 1 ≤ n → n ≤ 8 → ∃ g cap, kget n kv = some (.func (.func g) #[] cap) ∧ StepCT n g cap k
theorem DoesV.mono : ∀ k k' v, Le k k' → DoesV k v → DoesV k' v := fun k k' v hle ⟨r, kv, h1, h2, h3⟩ => ⟨r, kv, h1, h2.le hle, fun n a b => by
  obtain ⟨g, cap, h4, h5⟩ := h3 n a b
  exact ⟨g, cap, h4, h5.le hle⟩⟩
instance : TyI Tryz.prog 97 1 8 .nilFunc := tyi (by kernel_rfl)
set_option maxHeartbeats 2000000 in
theorem does_ct {k : PH} : CT Tryz.prog 60 #[] k DoesV := by
  refine ct_of_body (l := []) Tryz.func60 rfl Tryz.ntmps60 (by simp) DoesV.mono fun F hF0 hFm => ?_
  have hm : ∀ {g : FuncId} (k k' : PH) (v : Value), Le k k' → (∃ B, v = .func (.func 125) #[] #[.pointer (some ⟨B, 0, none⟩)] ∧ Cells k B 0 [.func (.func g) #[] #[]]) → (∃ B, v = .func (.func 125) #[] #[.pointer (some ⟨B, 0, none⟩)] ∧ Cells k' B 0 [.func (.func g) #[] #[]]) := fun k k' v hle ⟨B, h1, h2⟩ => ⟨B, h1, h2.le hle⟩
  repeat (first | refine cg_seq ?_ | refine cg_region ?_ | refine rg_nil ?_ | refine eg_then ?_ | refine qsp ?_)
  refine rv rfl rfl rfl (loc_call rfl rfl rfl rfl hm (does1_ct 127)) ?_
  rintro k1 hle1 _ ⟨B7, rfl, h7⟩
  repeat (first | refine cg_seq ?_ | refine cg_region ?_ | refine rg_nil ?_ | refine eg_then ?_ | refine qsp ?_)
  refine rb rfl rfl rfl rfl (a_makeMap rfl) ?_; intro r k2 hr2 hN2 hle2 hk2
  have M := MapAt.new encI hk2
  have h7 := h7.le hle2
  skip
  refine r_ins (x := 1) M hN2 rfl rfl rfl rfl rfl rfl rfl ?_
  intro k3 ht3 M
  have hrB : ∀ {k : PH} {B : Nat} {vs : List Value} {kv : List (Int × Value)}, MapAt encI k r kv → Cells k B 0 vs → B ≠ r := fun h hc e => by
    obtain ⟨es, cl, h1, _⟩ := h
    obtain ⟨c, et, fr, h2, _⟩ := hc
    rw [e, h1] at h2; cases h2
  have tc : ∀ {k k' : PH} {B : Nat} {vs : List Value} {kv : List (Int × Value)}, MapAt encI k r kv → Turn1 k k' r → Cells k B 0 vs → Cells k' B 0 vs := fun h ht hc => by
    have hne := hrB h hc
    obtain ⟨c, et, fr, h2, h3⟩ := hc
    exact ⟨c, et, fr, turn1_get ht hne h2, h3⟩
  have h7 := tc (MapAt.new encI hk2) ht3 h7
  repeat (first | refine qsp ?_)
  refine rv rfl rfl rfl (loc_call rfl rfl rfl rfl hm (does1_ct 131)) ?_
  rintro k4 hle4 _ ⟨B2, rfl, h2⟩
  have M := M.le hle4
  have h7 := h7.le hle4
  skip
  refine r_ins (x := 2) M hN2 rfl rfl rfl rfl rfl rfl rfl ?_
  intro k5 ht5 M5
  have h7 := tc M ht5 h7
  have h2 := tc M ht5 h2
  repeat (first | refine qsp ?_)
  refine rv rfl rfl rfl (loc_call rfl rfl rfl rfl hm (does1_ct 137)) ?_
  rintro k6 hle6 _ ⟨B3, rfl, h3⟩
  have M6 := M5.le hle6
  have h7 := h7.le hle6
  have h2 := h2.le hle6
  skip
  refine r_ins (x := 3) M6 hN2 rfl rfl rfl rfl rfl rfl rfl ?_
  intro k7 ht7 M7
  have h7 := tc M6 ht7 h7
  have h2 := tc M6 ht7 h2
  have h3 := tc M6 ht7 h3
  repeat (first | refine qsp ?_)
  refine rv rfl rfl rfl (loc_call rfl rfl rfl rfl hm (does1_ct 138)) ?_
  rintro k8 hle8 _ ⟨B4, rfl, h4⟩
  have M8 := M7.le hle8
  have h7 := h7.le hle8
  have h2 := h2.le hle8
  have h3 := h3.le hle8
  skip
  refine r_ins (x := 4) M8 hN2 rfl rfl rfl rfl rfl rfl rfl ?_
  intro k9 ht9 M9
  have h7 := tc M8 ht9 h7
  have h2 := tc M8 ht9 h2
  have h3 := tc M8 ht9 h3
  have h4 := tc M8 ht9 h4
  skip
  refine r_ins (x := 5) M9 hN2 rfl rfl rfl rfl rfl rfl rfl ?_
  intro k10 ht10 M10
  have h7 := tc M9 ht10 h7
  have h2 := tc M9 ht10 h2
  have h3 := tc M9 ht10 h3
  have h4 := tc M9 ht10 h4
  skip
  refine r_ins (x := 6) M10 hN2 rfl rfl rfl rfl rfl rfl rfl ?_
  intro k11 ht11 M11
  have h7 := tc M10 ht11 h7
  have h2 := tc M10 ht11 h2
  have h3 := tc M10 ht11 h3
  have h4 := tc M10 ht11 h4
  repeat (first | refine qsp ?_)
  refine r_ins (x := 7) M11 hN2 rfl rfl rfl rfl rfl rfl rfl ?_
  intro k12 ht12 M12
  have h7 := tc M11 ht12 h7
  have h2 := tc M11 ht12 h2
  have h3 := tc M11 ht12 h3
  have h4 := tc M11 ht12 h4
  repeat (first | refine qsp ?_)
  refine r_ins (x := 8) M12 hN2 rfl rfl rfl rfl rfl rfl rfl ?_
  intro k13 ht13 M13
  have h7 := tc M12 ht13 h7
  have h2 := tc M12 ht13 h2
  have h3 := tc M12 ht13 h3
  have h4 := tc M12 ht13 h4
  repeat (first | refine rg_nil ?_ | refine eg_then ?_ | refine qsp ?_ | refine cg_ret ?_)
  have way : ∀ n : Int, n = 7 ∨ n = 8 → StepCT n 125 #[.pointer (some ⟨B7, 0, none⟩)] k13 := fun n hn => by
    refine ⟨inferInstance, fun k' hle N b x a0 c0 a1 c1 a2 c2 a3 c3 s H hf hr hok hs hk => ?_⟩
    subst hk
    obtain ⟨g1, g2⟩ := form_way hs hn
    have := is_size g2
    refine of_ctm (g := 127) H hf hr hok (h7.le hle) s.topic ?_ ?_ ?_ ?_
    · rw [g1]; exact ByteArray.empty_append
    · rw [g1]; show 0 + _ ≤ _; omega
    · intro hk
      unfold actC
      rw [if_neg (by omega), if_neg (by omega), if_neg (by omega), if_neg (by omega), if_neg (by omega), if_neg (by omega), if_neg (by rw [hk]; simp)]
    · intro hk k2 hle2
      exact way_ctm _ (H.le hle2) hf hr hok hn hk
  refine eg_return rfl rfl ⟨r, _, rfl, M13, fun n n1 n8 => ?_⟩
  obtain rfl | rfl | rfl | rfl | rfl | rfl | rfl | rfl : n = 1 ∨ n = 2 ∨ n = 3 ∨ n = 4 ∨ n = 5 ∨ n = 6 ∨ n = 7 ∨ n = 8 := by omega
  · exact ⟨_, _, rfl, inferInstance, fun k' hle N b x a0 c0 a1 c1 a2 c2 a3 c3 s H hf hr hok hs hk => add_ctm H hf hr hok hk⟩
  · exact ⟨_, _, rfl, step_at h2 (.inl rfl) drop_ctm⟩
  · exact ⟨_, _, rfl, step_at h3 (.inr (.inl rfl)) more_ctm⟩
  · exact ⟨_, _, rfl, step_at h4 (.inr (.inr rfl)) keep_ctm⟩
  · exact ⟨_, _, rfl, inferInstance, fun k' hle N b x a0 c0 a1 c1 a2 c2 a3 c3 s H hf hr hok hs hk => rule_ctm H hf hr hok hk⟩
  · exact ⟨_, _, rfl, inferInstance, fun k' hle N b x a0 c0 a1 c1 a2 c2 a3 c3 s H hf hr hok hs hk => rate_ctm H hf hr hok (form_rate hs hk).1 (form_rate hs hk).2 hk⟩
  · exact ⟨_, _, rfl, way 7 (.inl rfl)⟩
  · exact ⟨_, _, rfl, way 8 (.inr rfl)⟩
end Go.Wm

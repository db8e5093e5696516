/-
  Whether a share is even: assign.Even. Conditions: that what is handed in reads as data, and that it is little.
-/
import Derived.Test.YtbhgbfhgdccghaaP10
import Derived.Test.YtbhgbfhgdccghaaK1
set_option linter.all false
namespace Go.Wm
open Go.RowKit Go.Proofs
theorem countP_take_succ {α : Type} {l : List α} {f : α → Bool} {p : Nat} (h : p < l.length) : (l.take (p + 1)).countP f = (l.take p).countP f + if f l[p] then 1 else 0 := by
  rw [List.take_succ_eq_append_getElem h, List.countP_append]
  congr 1
  simp [List.countP_cons]
attribute [local irreducible] RG CG EG WA Loc Det Alc CT Exit.then Exit.inBlock Code.wp bodyPost
def anyW (l : List Member) (tp : Tp) : Bool := l.any fun m => decide (tp.topic ∈ m.subs)
theorem idxF_any {α : Type} (l : List α) (f : α → Bool) : decide (idxF l f ≥ 0) = l.any f := by
  rcases idxF_range l f with h | ⟨i, h, hi, hf⟩
  · have : l.any f = false := by
      rw [List.any_eq_false]
      intro x hx
      unfold idxF at h
      cases hq : l.findIdx? f with
      | none =>
        rw [List.findIdx?_eq_none_iff] at hq
        simp [hq x hx]
      | some i => rw [hq] at h; simp only at h; omega
    rw [this, h]
    rfl
  · have : l.any f = true := by
      rw [List.any_eq_true]
      exact ⟨l[i], List.getElem_mem hi, hf⟩
    rw [this, h]
    simp
set_option maxHeartbeats 1000000 in
theorem even1_ct {k : PH} {m : Member} {cm : List Value} (hm : tMember.rep k cm m) (tp : Tp) {bt : Nat} (hb : Cells k bt 0 tp.vs) :
    CT Try.prog 39 #[.agg cm.toArray, .pointer (some ⟨bt, 0, none⟩)] k (fun _ v => v = .bool (decide (tp.topic ∈ m.subs))) := by
  have hm' := hm
  obtain ⟨sa, sc, oa, oc, rfl, hsub, hown, hid⟩ := hm
  refine ct_of_body (l := [_, _]) Try.func39 rfl Try.ntmps39 (by simp) (fun _ _ _ _ h => h) fun F hF0 hFm => ?_
  repeat (first | refine cg_seq ?_ | refine cg_region ?_)
  refine rb rfl rfl rfl rfl (a_box rfl rfl) ?_; intro b2 k2 hb2 hN2 hle2 hk2
  have c2 := cells_at (vs := Member.cs m sa sc oa oc) hk2 rfl
  have hb' := hb.le hle2
  repeat (first | refine cg_seq ?_ | refine cg_region ?_ | refine rg_nil ?_ | refine eg_then ?_ | refine qsp ?_ | refine qsg ?_)
  refine rs rfl rfl (loc_call_is rfl rfl rfl rfl (wants_ct (tMember.mono hle2 hm') tp)) ?_
  repeat (first | refine rg_nil ?_ | refine eg_then ?_ | refine qsp ?_ | refine cg_ret ?_)
  exact eg_return rfl rfl rfl
set_option maxHeartbeats 1000000 in
theorem containsFunc_ct {k : PH} {a : Option Addr} {c : Nat} {l : List Member} (hl : Sl tMember k a c l) {g : FuncId} [FnOk Try.prog g] {cap : Array Value} (f : Member → Bool)
    (hf : ∀ m ∈ l, ∀ cm, tMember.rep k cm m → CT Try.prog g (#[] ++ [.agg cm.toArray].toArray ++ cap) k (fun _ v => v = .bool (f m))) :
    CT Try.prog 38 #[.slice a l.length c, .func (.func g) #[] cap] k (fun _ v => v = .bool (l.any f)) := by
  refine ct_of_body (l := [_, _]) Try.func38 rfl Try.ntmps38 (by simp) (fun _ _ _ _ h => h) fun F hF0 hFm => ?_
  repeat (first | refine cg_seq ?_ | refine cg_region ?_ | refine rg_nil ?_ | refine eg_then ?_ | refine qsp ?_)
  refine rs rfl rfl (loc_call_is rfl rfl rfl rfl (indexFunc_ct hl f hf)) ?_
  repeat (first | refine rg_nil ?_ | refine eg_then ?_ | refine qsp ?_ | refine cg_ret ?_)
  refine eg_return rfl rfl ?_
  rw [← idxF_any]
/-- A partition stands rightly with member i. -/
def goodTp (l : List Member) (tps : List Tp) (own : List (List Tp)) (i : Nat) (tp : Tp) : Bool :=
  decide (tp.topic ∈ ((l[i]?).map (·.subs)).getD []) && (decide (tp ∈ tps) && (List.range l.length).all fun k => !(decide (tp.topic ∈ ((l[k]?).map (·.subs)).getD []) && decide (((own.getD i []).length : Int) - ((own.getD k []).length : Int) > 1)))
def evenA (l : List Member) (tps : List Tp) (own : List (List Tp)) : Bool :=
  okM l && (decide tps.Nodup && (decide (own.length = l.length) && (decide own.flatten.Nodup && (((List.range own.length).all fun i => (own.getD i []).all (goodTp l tps own i)) && decide ((lenTo own own.length : Int) - (tps.countP (anyW l) : Nat) = 0)))))
theorem evenA_bad {l : List Member} {tps : List Tp} {own : List (List Tp)} {i : Nat} {tp : Tp} (hi : i < own.length) (htp : tp ∈ own.getD i []) (h : goodTp l tps own i tp = false) : evenA l tps own = false := by
  have : ((List.range own.length).all fun i => (own.getD i []).all (goodTp l tps own i)) = false := by
    rw [List.all_eq_false]
    refine ⟨i, by simpa using hi, ?_⟩
    have : (own.getD i []).all (goodTp l tps own i) = false := by
      rw [List.all_eq_false]
      exact ⟨tp, htp, by simp [h]⟩
    rw [this]
    simp
  unfold evenA
  rw [this]
  simp
set_option maxHeartbeats 4000000 in
theorem even_ct {k : PH} {a b c' : Option Addr} {c d e' : Nat} {l : List Member} {tps : List Tp} {own : List (List Tp)} (hl : Sl tMember k a c l) (ht : Sl tTp k b d tps) (ho : Sl (tSl tTp) k c' e' own) (hb : l.length ≤ 1000000) (hbt : tps.length ≤ 1000000) (hsum : own.length = l.length → lenTo own own.length ≤ 1000000) :
    CT Try.prog 13 #[.slice a l.length c, .slice b tps.length d, .slice c' own.length e'] k (fun k' v => v = .bool (evenA l tps own)) := by
  refine ct_of_body (l := [_, _, _]) Try.func13 rfl Try.ntmps13 (by simp) (fun _ _ _ _ h => h) fun F hF0 hFm => ?_
  have b1 := hl.cap; have b2 := hl.max; unfold maxLen at b2
  have b3 := ht.cap; have b4 := ht.max; unfold maxLen at b4
  have b5 := ho.cap; have b6 := ho.max; unfold maxLen at b6
  have hmc : CT Try.prog 26 #[.slice a l.length c] k (fun _ v => v = .bool (okM l)) := members_ct hl (by omega)
  have hal1 := alikeTp_ct ht
  repeat (first | refine cg_seq ?_ | refine cg_region ?_ | refine rg_nil ?_ | refine eg_then ?_ | refine qsp ?_)
  cases hM : okM l with
  | false =>
    rw [hM] at hmc
    refine rs rfl rfl (loc_call_is rfl rfl rfl rfl (hmc)) ?_
    repeat (first | refine cg_seq ?_ | refine cg_region ?_ | refine rg_nil ?_ | refine eg_then ?_ | refine qsp ?_ | refine qso ?_ | refine cg_cond_true rfl ?_ | refine cg_ret ?_ | refine eg_then_ret ?_)
    exact eg_return rfl rfl (by simp [evenA, hM])
  | true =>
  rw [hM] at hmc
  refine rs rfl rfl (loc_call_is rfl rfl rfl rfl (hmc)) ?_
  repeat (first | refine qsp ?_)
  by_cases hnd : tps.Nodup
  · rw [decide_eq_true hnd] at hal1
    refine rs rfl rfl (loc_call_is rfl rfl rfl rfl (hal1)) ?_
    repeat (first | refine qsp ?_ | refine qsn ?_)
    by_cases hlen : own.length = l.length
    · have q1 : ((own.length : Int) != (l.length : Int)) = false := by simp [hlen]
      rw [q1]
      repeat (first | refine qsp ?_)
      refine rv rfl rfl rfl (loc_call rfl rfl rfl rfl concat_mono (concat_ct ho (hsum hlen))) ?_
      rintro k1 hle1 _ ⟨fa, fc, rfl, hf⟩
      have hal := alikeTp_ct hf
      by_cases hnf : own.flatten.Nodup
      · rw [decide_eq_true hnf] at hal
        have hsum' := hsum hlen
        skip
        refine rs rfl rfl (loc_call_is rfl rfl rfl rfl (hal)) ?_
        repeat (first | refine cg_seq ?_ | refine cg_region ?_ | refine rg_nil ?_ | refine eg_then ?_ | refine qsp ?_ | refine qsn ?_ | refine cg_cond_false rfl ?_ | refine cg_skip ?_ | refine cg_block ?_)
        refine cg_loop (fun (i : Nat) e k' => Le k k' ∧ i ≤ own.length ∧ (∀ j, j < i → (own.getD j []).all (goodTp l tps own j) = true) ∧ e = [(0, .is (.slice a l.length c)), (1, .is (.slice b tps.length d)), (2, .is (.slice c' own.length e')), (7, .is (.int .i64 (lenTo own i : Nat))), (35, .is (.slice c' own.length e')), (36, .is (.int .i64 (own.length : Int))), (37, .is (.int .i64 (i : Int)))])
          (fun i => own.length - i) 0 ⟨hle1, Nat.zero_le _, fun j hj => by omega, rfl⟩ ⟨rfl, rfl, rfl, rfl, rfl, rfl, rfl, trivial⟩ ?_
        rintro i e k2 ⟨hle2, hi, hgood, rfl⟩
        repeat (first | refine cg_seq ?_ | refine cg_region ?_ | refine rg_nil ?_ | refine eg_then ?_ | refine qsp ?_)
        refine cg_cond rfl (fun h => ?_) (fun h => ?_)
        · have hlt : i < own.length := by simpa using h
          have hil : i < l.length := by omega
          obtain ⟨os, hos⟩ : ∃ os, own[i]? = some os := ⟨_, List.getElem?_eq_getElem hlt⟩
          have hgd : own.getD i [] = os := by rw [List.getD_eq_getElem?_getD, hos]; rfl
          obtain ⟨bx, ox, cx, rfl, ⟨ax, acx, rfl, hsx⟩, hcx⟩ := (ho.le hle2).el i os hos
          have b7 := hsx.cap; have b8 := hsx.max; unfold maxLen at b8
          have hmono := lenTo_mono own (i := i + 1) (j := own.length) hlt
          simp only [lenTo, hgd] at hmono
          obtain ⟨mi, hmi⟩ : ∃ mi, l[i]? = some mi := ⟨_, List.getElem?_eq_getElem hil⟩
          repeat (first | refine cg_seq ?_ | refine cg_region ?_ | refine rg_nil ?_ | refine eg_then ?_ | refine qsp ?_ | refine qsn ?_ | refine qsi ?_ | refine qsl ?_ | refine cg_skip ?_ | refine cg_block ?_)
          refine cg_loop (fun (p : Nat) e k' => Le k2 k' ∧ p ≤ os.length ∧ (∀ tp ∈ os.take p, goodTp l tps own i tp = true) ∧ e = [(0, .is (.slice a l.length c)), (1, .is (.slice b tps.length d)), (2, .is (.slice (some ⟨bx, ox, none⟩) own.length e')), (7, .is (.int .i64 ((lenTo own i + p : Nat) : Int))), (8, .is (.int .i64 (i : Int))), (9, .is (.slice ax os.length acx)), (35, .is (.slice (some ⟨bx, ox, none⟩) own.length e')), (36, .is (.int .i64 (own.length : Int))), (37, .is (.int .i64 (i : Int))), (42, .is (.slice ax os.length acx)), (43, .is (.int .i64 (os.length : Int))), (44, .is (.int .i64 (p : Int)))])
            (fun p => os.length - p) 0 ⟨Le.refl _, Nat.zero_le _, by simp, rfl⟩ ⟨rfl, rfl, rfl, rfl, rfl, rfl, rfl, rfl, rfl, rfl, rfl, rfl, trivial⟩ ?_
          rintro p e k3 ⟨hle3, hp, hgp, rfl⟩
          repeat (first | refine cg_seq ?_ | refine cg_region ?_ | refine rg_nil ?_ | refine eg_then ?_ | refine qsp ?_)
          refine cg_cond rfl (fun h1 => ?_) (fun h1 => ?_)
          · have hpt : p < os.length := by simpa using h1
            have htk := mem_take_succ (x := os[p]) hpt
            have hmem : os[p] ∈ own.getD i [] := by rw [hgd]; exact List.getElem_mem hpt
            have hbad : goodTp l tps own i os[p] = false → evenA l tps own = false := evenA_bad hlt hmem
            have hall : ∀ tp ∈ os.take (p + 1), tp ∈ os.take p ∨ tp = os[p] := fun tp h => (mem_take_succ hpt).1 h
            generalize htp : os[p] = tp at hbad hall
            obtain ⟨by', oy, cy, rfl, ⟨rfl, _⟩, hcy⟩ := (hsx.le hle3).el p tp (by rw [← htp]; exact List.getElem?_eq_getElem hpt)
            repeat (first | refine cg_seq ?_ | refine cg_region ?_ | refine eg_then ?_ | refine qsi ?_ | refine qsg ?_ | refine cg_skip ?_ | refine cg_block ?_)
            refine rb rfl rfl rfl rfl (a_alloc rfl) ?_; intro b9 k9 hb9 hN9 hle9 hk9
            refine rw1 rfl rfl rfl rfl rfl rfl rfl hk9 rfl (.inl hN9) ?_ ?_; (simp [Tp.vs, Member.cs, Group.cs, Value.oneCell']); intro k10 ht10 hk10
            have hle10 := ht10 k3 hle9 hb9
            have hle010 := hle2.trans (hle3.trans hle10)
            have c9 := cells_at (vs := tp.vs) hk10 rfl
            obtain ⟨bm, om, cm, rfl, hrepm, hcm⟩ := (hl.le hle010).el i mi hmi
            have hcl := tMember.len hrepm
            have hwant := wants_ct hrepm tp
            by_cases hw : tp.topic ∈ mi.subs
            · rw [decide_eq_true hw] at hwant
              have hct := containsTp_ct (ht.le hle010) tp
              by_cases hin : tp ∈ tps
              · rw [decide_eq_true hin] at hct
                repeat (first | refine cg_seq ?_ | refine cg_region ?_ | refine rg_nil ?_ | refine eg_then ?_ | refine qsp ?_ | refine qsa ?_)
                refine cg_any (by kernel_rfl) rfl ?_
                repeat (first | refine qwp ?_ | refine qwi ?_)
                refine ws rfl (loc_det rfl (d_load_agg (vs := cm) rfl rfl rfl hcl hcm)) ?_
                repeat (first | refine qwg ?_)
                refine ws rfl (loc_call_is rfl rfl rfl rfl (hwant)) ?_
                repeat (first | refine qwp ?_ | refine qwg ?_)
                refine ws rfl (loc_call_is rfl rfl rfl rfl (hct)) ?_
                repeat (first | refine qwp ?_ | (refine wn rfl ?_; refine eg_then ?_))
                repeat (first | refine cg_seq ?_ | refine cg_region ?_ | refine rg_nil ?_ | refine eg_then ?_ | refine qsp ?_ | refine qsn ?_ | refine cg_cond_false rfl ?_ | refine cg_skip ?_ | refine cg_block ?_)
                refine cg_loop (fun (q : Nat) e k' => Le k10 k' ∧ q ≤ l.length ∧ (∀ j, j < q → (!(decide (tp.topic ∈ ((l[j]?).map (·.subs)).getD []) && decide (((own.getD i []).length : Int) - ((own.getD j []).length : Int) > 1))) = true) ∧ e = [(0, .is (.slice (some ⟨bm, om, none⟩) l.length c)), (1, .is (.slice b tps.length d)), (2, .is (.slice (some ⟨bx, ox, none⟩) own.length e')), (7, .is (.int .i64 ((lenTo own i : Int) + (p : Int) + 1))), (8, .is (.int .i64 (i : Int))), (9, .is (.slice (some ⟨by', oy, none⟩) os.length acx)), (11, .is (.pointer (some ⟨b9, 0, none⟩))), (35, .is (.slice (some ⟨bx, ox, none⟩) own.length e')), (36, .is (.int .i64 (own.length : Int))), (37, .is (.int .i64 (i : Int))), (42, .is (.slice (some ⟨by', oy, none⟩) os.length acx)), (43, .is (.int .i64 (os.length : Int))), (44, .is (.int .i64 (p : Int))), (63, .is (.slice (some ⟨bm, om, none⟩) l.length c)), (64, .is (.int .i64 (l.length : Int))), (65, .is (.int .i64 (q : Int)))])
                  (fun q => l.length - q) 0 ⟨Le.refl _, Nat.zero_le _, fun j hj => by omega, rfl⟩ ⟨rfl, rfl, rfl, rfl, rfl, rfl, rfl, rfl, rfl, rfl, rfl, rfl, rfl, rfl, rfl, rfl, trivial⟩ ?_
                rintro q e k11 ⟨hle11, hq, hqs, rfl⟩
                repeat (first | refine cg_seq ?_ | refine cg_region ?_ | refine rg_nil ?_ | refine eg_then ?_ | refine qsp ?_)
                refine cg_cond rfl (fun h2 => ?_) (fun h2 => ?_)
                · have hql : q < l.length := by simpa using h2
                  obtain ⟨mq, hmq⟩ : ∃ mq, l[q]? = some mq := ⟨_, List.getElem?_eq_getElem hql⟩
                  obtain ⟨oq, hoq⟩ : ∃ oq, own[q]? = some oq := ⟨_, List.getElem?_eq_getElem (by omega)⟩
                  have hgq : own.getD q [] = oq := by rw [List.getD_eq_getElem?_getD, hoq]; rfl
                  obtain ⟨bn, on', cn, en, hrepn, hcn⟩ := (hl.le (hle010.trans hle11)).el q mq hmq
                  cases en
                  have hrepn' := hrepn
                  obtain ⟨sa, sc, oa, oc, rfl, _⟩ := hrepn'
                  have c9' := c9.le hle11
                  repeat (first | refine cg_seq ?_ | refine cg_region ?_ | refine eg_then ?_ | refine qsp ?_ | refine qsi ?_ | refine qsg ?_ | refine cg_skip ?_ | refine cg_block ?_)
                  refine rb rfl rfl rfl rfl (a_alloc rfl) ?_; intro b12 k12 hb12 hN12 hle12 hk12
                  repeat (first | refine qsp ?_)
                  refine rw1 rfl rfl rfl rfl rfl rfl rfl hk12 rfl (.inl hN12) ?_ ?_; (simp [Tp.vs, Member.cs, Group.cs, Value.oneCell']); intro k13 ht13 hk13
                  have hle13 := ht13 k11 hle12 hb12
                  have c13 := cells_at (vs := Member.cs mq sa sc oa oc) hk13 rfl
                  have c9'' := c9'.le hle13
                  have hwq := wants_ct (tMember.mono hle13 hrepn) tp
                  obtain ⟨bo, oo, co, eo, ⟨aq, acq, rfl, hsq⟩, hcq⟩ := (ho.le (hle010.trans (hle11.trans hle13))).el q oq hoq
                  cases eo
                  have b9 := hsq.cap; have b10 := hsq.max; unfold maxLen at b10
                  by_cases hwn : tp.topic ∈ mq.subs
                  · rw [decide_eq_true hwn] at hwq
                    repeat (first | refine cg_seq ?_ | refine cg_region ?_ | refine rg_nil ?_ | refine eg_then ?_ | refine qsg ?_)
                    refine rs rfl rfl (loc_call_is rfl rfl rfl rfl (hwq)) ?_
                    repeat (first | refine rg_nil ?_ | refine eg_then ?_ | refine qsp ?_ | refine qsn ?_ | refine qss ?_ | refine qsi ?_ | refine qsl ?_)
                    refine cg_cond rfl (fun h3 => ?_) (fun h3 => ?_)
                    · repeat (first | refine cg_seq ?_ | refine cg_region ?_ | refine rg_nil ?_ | refine eg_then ?_ | refine qsp ?_ | refine cg_ret ?_ | refine eg_then_ret ?_ | refine eg_in_ret ?_)
                      refine eg_return rfl rfl ?_
                      rw [hbad]
                      have : ((List.range l.length).all fun k => !(decide (tp.topic ∈ ((l[k]?).map (·.subs)).getD []) && decide (((own.getD i []).length : Int) - ((own.getD k []).length : Int) > 1))) = false := by
                        rw [List.all_eq_false]
                        refine ⟨q, by simpa using hql, ?_⟩
                        rw [hmq, hgd, hgq, h3]
                        simp [hwn]
                      simp only [goodTp, this, Bool.and_false]
                    · repeat (first | refine cg_region ?_ | refine rg_nil ?_ | refine eg_then ?_ | refine qsp ?_ | refine qsa ?_ | refine cg_skip ?_ | refine eg_in_normal ?_)
                      refine eg_again (q + 1) _ ⟨hle11.trans hle13, hql, fun j hj => ?_, rfl⟩ (by omega) ⟨rfl, rfl, rfl, rfl, rfl, rfl, rfl, rfl, rfl, rfl, rfl, rfl, rfl, rfl, rfl, rfl, trivial⟩
                      by_cases hjq : j = q
                      · subst hjq
                        rw [hgd, hgq, h3]
                        simp
                      · exact hqs j (by omega)
                  · rw [decide_eq_false hwn] at hwq
                    repeat (first | refine cg_seq ?_ | refine cg_region ?_ | refine rg_nil ?_ | refine eg_then ?_ | refine qsg ?_)
                    refine rs rfl rfl (loc_call_is rfl rfl rfl rfl (hwq)) ?_
                    repeat (first | refine cg_region ?_ | refine rg_nil ?_ | refine eg_then ?_ | refine qsp ?_ | refine qsa ?_ | refine qso ?_ | refine cg_cond_false rfl ?_ | refine cg_skip ?_ | refine eg_in_normal ?_)
                    refine eg_again (q + 1) _ ⟨hle11.trans hle13, hql, fun j hj => ?_, rfl⟩ (by omega) ⟨rfl, rfl, rfl, rfl, rfl, rfl, rfl, rfl, rfl, rfl, rfl, rfl, rfl, rfl, rfl, rfl, trivial⟩
                    by_cases hjq : j = q
                    · subst hjq
                      rw [hmq]
                      simp [hwn]
                    · exact hqs j (by omega)
                · have hql : q = l.length := by simp at h2; omega
                  subst hql
                  have hgt : goodTp l tps own i tp = true := by
                    unfold goodTp
                    rw [hmi]
                    simp only [Option.map_some, Option.getD_some, decide_eq_true hw, decide_eq_true hin, Bool.true_and]
                    rw [List.all_eq_true]
                    intro j hj
                    exact hqs j (by simpa using hj)
                  repeat (first | refine cg_region ?_ | refine rg_nil ?_ | refine eg_then ?_ | refine qsp ?_ | refine qsa ?_ | refine eg_in_normal ?_ | refine cg_exit ?_ | refine eg_then_exit ?_ | refine eg_in_exit ?_)
                  refine eg_again (p + 1) _ ⟨hle3.trans (hle10.trans hle11), hpt, fun x hx => ?_, rfl⟩ (by omega) ⟨rfl, rfl, rfl, ?_, rfl, rfl, rfl, rfl, rfl, rfl, rfl, rfl, trivial⟩
                  · rcases hall x hx with h5 | h5
                    · exact hgp x h5
                    · rw [h5]; exact hgt
                  · show some (PV.is (Value.int .i64 ((lenTo own i : Int) + (p : Int) + 1))) = _
                    congr 3
              · rw [decide_eq_false hin] at hct
                have hgt : goodTp l tps own i tp = false := by simp [goodTp, hin]
                repeat (first | refine cg_seq ?_ | refine cg_region ?_ | refine rg_nil ?_ | refine eg_then ?_ | refine qsp ?_ | refine qsa ?_)
                refine cg_any (by kernel_rfl) rfl ?_
                repeat (first | refine qwp ?_ | refine qwi ?_)
                refine ws rfl (loc_det rfl (d_load_agg (vs := cm) rfl rfl rfl hcl hcm)) ?_
                repeat (first | refine qwg ?_)
                refine ws rfl (loc_call_is rfl rfl rfl rfl (hwant)) ?_
                repeat (first | refine qwp ?_ | refine qwg ?_)
                refine ws rfl (loc_call_is rfl rfl rfl rfl (hct)) ?_
                repeat (first | refine qwp ?_ | (refine wn rfl ?_; refine eg_then ?_))
                repeat (first | refine cg_seq ?_ | refine cg_region ?_ | refine rg_nil ?_ | refine eg_then ?_ | refine qsp ?_ | refine cg_cond_true rfl ?_ | refine cg_ret ?_ | refine eg_then_ret ?_ | refine eg_in_ret ?_)
                exact eg_return rfl rfl (by rw [hbad hgt])
            · rw [decide_eq_false hw] at hwant
              have hgt : goodTp l tps own i tp = false := by
                unfold goodTp
                rw [hmi]
                simp [hw]
              repeat (first | refine cg_seq ?_ | refine cg_region ?_ | refine rg_nil ?_ | refine eg_then ?_ | refine qsp ?_ | refine qsa ?_)
              refine cg_any (by kernel_rfl) rfl ?_
              repeat (first | refine qwp ?_ | refine qwi ?_)
              refine ws rfl (loc_det rfl (d_load_agg (vs := cm) rfl rfl rfl hcl hcm)) ?_
              repeat (first | refine qwg ?_)
              refine ws rfl (loc_call_is rfl rfl rfl rfl (hwant)) ?_
              repeat (first | refine qwp ?_ | refine qwo ?_ | (refine wn rfl ?_; refine eg_then ?_))
              repeat (first | refine cg_seq ?_ | refine cg_region ?_ | refine rg_nil ?_ | refine eg_then ?_ | refine qsp ?_ | refine cg_cond_true rfl ?_ | refine cg_ret ?_ | refine eg_then_ret ?_ | refine eg_in_ret ?_)
              exact eg_return rfl rfl (by rw [hbad hgt])
          · have hpl : p = os.length := by simp at h1; omega
            rw [hpl, List.take_length] at hgp
            have hil2 : (own.getD i []).all (goodTp l tps own i) = true := by
              rw [hgd, List.all_eq_true]
              exact hgp
            repeat (first | refine cg_region ?_ | refine rg_nil ?_ | refine eg_then ?_ | refine qsp ?_ | refine qsa ?_ | refine eg_in_normal ?_ | refine cg_exit ?_ | refine eg_then_exit ?_ | refine eg_in_exit ?_)
            refine eg_again (i + 1) _ ⟨hle2.trans hle3, hlt, fun j hj => ?_, rfl⟩ (by omega) ⟨rfl, rfl, rfl, ?_, rfl, rfl, rfl, trivial⟩
            · by_cases hji : j = i
              · rw [hji]; exact hil2
              · exact hgood j (by omega)
            · show some (PV.is (Value.int .i64 ((lenTo own i + p : Nat) : Int))) = _
              rw [hpl]
              simp only [lenTo, hgd]
        · have hio : i = own.length := by simp at h; omega
          subst hio
          have hall : ((List.range own.length).all fun i => (own.getD i []).all (goodTp l tps own i)) = true := by
            rw [List.all_eq_true]
            exact fun j hj => hgood j (by simpa using hj)
          repeat (first | refine cg_seq ?_ | refine cg_region ?_ | refine rg_nil ?_ | refine eg_then ?_ | refine qsp ?_ | refine qsn ?_ | refine cg_block ?_ | refine cg_exit ?_ | refine eg_then_exit ?_ | refine eg_in_exit ?_)
          refine cg_loop (fun (p : Nat) e k' => Le k k' ∧ p ≤ tps.length ∧ e = [(0, .is (.slice a l.length c)), (7, .is (.int .i64 ((lenTo own own.length : Int) - ((tps.take p).countP (anyW l) : Nat)))), (87, .is (.slice b tps.length d)), (88, .is (.int .i64 (tps.length : Int))), (89, .is (.int .i64 (p : Int)))])
            (fun p => tps.length - p) 0 ⟨hle2, Nat.zero_le _, rfl⟩ ⟨rfl, ?_, rfl, rfl, rfl, trivial⟩ ?_
          · show some (PV.is (Value.int .i64 (lenTo own own.length : Int))) = _
            simp
          rintro p e k3 ⟨hle3, hp, rfl⟩
          have hcl : (tps.take p).countP (anyW l) ≤ p := Nat.le_trans List.countP_le_length (by rw [List.length_take]; omega)
          repeat (first | refine cg_seq ?_ | refine cg_region ?_ | refine rg_nil ?_ | refine eg_then ?_ | refine qsp ?_)
          refine cg_cond rfl (fun h1 => ?_) (fun h1 => ?_)
          · have hpt : p < tps.length := by simpa using h1
            have hcs := countP_take_succ (f := anyW l) hpt
            generalize htp : tps[p] = tp at hcs
            obtain ⟨by', oy, cy, rfl, ⟨rfl, _⟩, hcy⟩ := (ht.le hle3).el p tp (by rw [← htp]; exact List.getElem?_eq_getElem hpt)
            repeat (first | refine cg_seq ?_ | refine cg_region ?_ | refine eg_then ?_ | refine qsi ?_ | refine qsg ?_ | refine cg_skip ?_ | refine cg_block ?_)
            refine rb rfl rfl rfl rfl (a_alloc rfl) ?_; intro b9 k9 hb9 hN9 hle9 hk9
            refine rw1 rfl rfl rfl rfl rfl rfl rfl hk9 rfl (.inl hN9) ?_ ?_; (simp [Tp.vs, Member.cs, Group.cs, Value.oneCell']); intro k10 ht10 hk10
            have hle10 := ht10 k3 hle9 hb9
            have c9 := cells_at (vs := tp.vs) hk10 rfl
            have hcf := containsFunc_ct (hl.le (hle3.trans hle10)) (g := 39) (cap := #[.pointer (some ⟨b9, 0, none⟩)]) (fun m => decide (tp.topic ∈ m.subs)) (fun m _ cm hcm => even1_ct hcm tp c9)
            have hcf' : CT Try.prog 38 #[.slice a l.length c, .func (.func 39) #[] #[.pointer (some ⟨b9, 0, none⟩)]] k10 (fun _ v => v = .bool (anyW l tp)) := hcf
            cases haw : anyW l tp with
            | true =>
              rw [haw] at hcf' hcs
              repeat (first | refine cg_seq ?_ | refine cg_region ?_ | refine rg_nil ?_ | refine eg_then ?_ | refine qsp ?_)
              refine rs rfl rfl (loc_call_is rfl rfl rfl rfl (hcf')) ?_
              repeat (first | refine cg_region ?_ | refine rg_nil ?_ | refine eg_then ?_ | refine qsp ?_ | refine qsa ?_ | refine qss ?_ | refine cg_cond_true rfl ?_ | refine eg_in_normal ?_)
              refine eg_again (p + 1) _ ⟨hle3.trans hle10, hpt, rfl⟩ (by omega) ⟨rfl, ?_, rfl, rfl, rfl, trivial⟩
              rw [hcs]
              show some (PV.is (Value.int .i64 ((lenTo own own.length : Int) - ((tps.take p).countP (anyW l) : Nat) - 1))) = _
              congr 3
              simp
              omega
            | false =>
              rw [haw] at hcf' hcs
              repeat (first | refine cg_seq ?_ | refine cg_region ?_ | refine rg_nil ?_ | refine eg_then ?_ | refine qsp ?_)
              refine rs rfl rfl (loc_call_is rfl rfl rfl rfl (hcf')) ?_
              repeat (first | refine cg_region ?_ | refine rg_nil ?_ | refine eg_then ?_ | refine qsp ?_ | refine qsa ?_ | refine cg_cond_false rfl ?_ | refine cg_skip ?_ | refine eg_in_normal ?_)
              refine eg_again (p + 1) _ ⟨hle3.trans hle10, hpt, rfl⟩ (by omega) ⟨rfl, ?_, rfl, rfl, rfl, trivial⟩
              rw [hcs]
              rfl
          · have hpl : p = tps.length := by simp at h1; omega
            rw [hpl, List.take_length]
            repeat (first | refine cg_seq ?_ | refine cg_region ?_ | refine rg_nil ?_ | refine eg_then ?_ | refine qsp ?_ | refine cg_ret ?_ | refine cg_exit ?_ | refine eg_then_exit ?_ | refine eg_in_exit ?_)
            refine eg_return rfl rfl ?_
            simp only [evenA, hM, decide_eq_true hnd, decide_eq_true hlen, decide_eq_true hnf, hall, Bool.true_and]
            congr 1
      · rw [decide_eq_false hnf] at hal
        skip
        refine rs rfl rfl (loc_call_is rfl rfl rfl rfl (hal)) ?_
        repeat (first | refine cg_seq ?_ | refine cg_region ?_ | refine rg_nil ?_ | refine eg_then ?_ | refine qsp ?_ | refine cg_cond_true rfl ?_ | refine cg_ret ?_ | refine eg_then_ret ?_)
        exact eg_return rfl rfl (by simp [evenA, hnf])
    · have q1 : ((own.length : Int) != (l.length : Int)) = true := by simp; omega
      rw [q1]
      repeat (first | refine cg_seq ?_ | refine cg_region ?_ | refine rg_nil ?_ | refine eg_then ?_ | refine qsp ?_ | refine qso ?_ | refine cg_cond_true rfl ?_ | refine cg_ret ?_ | refine eg_then_ret ?_)
      exact eg_return rfl rfl (by simp [evenA, hlen])
  · rw [decide_eq_false hnd] at hal1
    refine rs rfl rfl (loc_call_is rfl rfl rfl rfl (hal1)) ?_
    repeat (first | refine cg_seq ?_ | refine cg_region ?_ | refine rg_nil ?_ | refine eg_then ?_ | refine qsp ?_ | refine qso ?_ | refine cg_cond_true rfl ?_ | refine cg_ret ?_ | refine eg_then_ret ?_)
    exact eg_return rfl rfl (by simp [evenA, hnd])
end Go.Wm

/-
  Whether a share is even, by the reference answer. Conditions: that what is handed in reads as data, and that it is little.
-/
import Derived.Test.YtapfmndcjcdcjaaD7
set_option linter.all false
namespace Go.Wm
open Go.RowKit Go.Proofs
attribute [local irreducible] RG CG EG WA Loc Det Alc CT Exit.then Exit.inBlock Code.wp bodyPost

def goodR (l : List Mem) (tps : List Tp) (own : List (List Tp)) (i p : Nat) : Bool := match (own.getD i [])[p]? with
  | some tp => goodTp l tps own i tp && !decide (tp ∈ (own.getD i []).take p)
  | none => true
def metN (own : List (List Tp)) (tp : Tp) : Nat := own.countP fun r => decide (tp ∈ r)
def okTp (l : List Mem) (own : List (List Tp)) (tp : Tp) : Bool := !(anyW l tp && !decide (metN own tp = 1) || decide (metN own tp > 1))
def evenR (l : List Mem) (tps : List Tp) (own : List (List Tp)) : Bool :=
  okM l && (decide tps.Nodup && (decide (own.length = l.length) && (((List.range own.length).all fun i => (List.range (own.getD i []).length).all (goodR l tps own i)) && tps.all (okTp l own))))
theorem evenR_bad {l : List Mem} {tps : List Tp} {own : List (List Tp)} {i p : Nat} (hi : i < own.length) (hp : p < (own.getD i []).length) (h : goodR l tps own i p = false) : evenR l tps own = false := by
  have : ((List.range own.length).all fun i => (List.range (own.getD i []).length).all (goodR l tps own i)) = false := by
    rw [List.all_eq_false]
    refine ⟨i, by simpa using hi, ?_⟩
    have : (List.range (own.getD i []).length).all (goodR l tps own i) = false := by
      rw [List.all_eq_false]
      exact ⟨p, by simpa using hp, by simp [h]⟩
    rw [this]
    simp
  unfold evenR
  rw [this]
  simp
theorem evenR_bad2 {l : List Mem} {tps : List Tp} {own : List (List Tp)} {tp : Tp} (hm : tp ∈ tps) (h : okTp l own tp = false) : evenR l tps own = false := by
  have : tps.all (okTp l own) = false := by
    rw [List.all_eq_false]
    exact ⟨tp, hm, by simp [h]⟩
  unfold evenR
  rw [this]
  simp

set_option maxHeartbeats 4000000 in
theorem refEven_ct {k : PH} {a b c' : Option Addr} {c d e' : Nat} {l : List Mem} {tps : List Tp} {own : List (List Tp)} (hl : Sl tMem k a c l) (ht : Sl tTp k b d tps) (ho : Sl (tSl tTp) k c' e' own) (hb : l.length ≤ 1000000) (hbt : tps.length ≤ 1000000) (hsum : lenTo own own.length ≤ 1000000) :
    CT Try.prog 23 #[.slice a l.length c, .slice b tps.length d, .slice c' own.length e'] k (fun k' v => v = .bool (evenR l tps own)) := by
  refine ct_of_body (l := [_, _, _]) Try.func23 rfl Try.ntmps23 (by simp) (fun _ _ _ _ h => h) fun F hF0 hFm => ?_
  have b1 := hl.cap; have b2 := hl.max; unfold maxLen at b2
  have b3 := ht.cap; have b4 := ht.max; unfold maxLen at b4
  have b5 := ho.cap; have b6 := ho.max; unfold maxLen at b6
  have hmc := refMembers_ct hl
  have hpc := parts_ct ht
  have hlen1 : ∀ (i : Nat) (os : List Tp), own[i]? = some os → os.length ≤ 1000000 := fun i os hos => by
    have hlt := (List.getElem?_eq_some_iff.1 hos).1
    have hgd : own.getD i [] = os := by rw [List.getD_eq_getElem?_getD, hos]; rfl
    have h1 := lenTo_mono own (i := i + 1) (j := own.length) hlt
    simp only [lenTo, hgd] at h1
    omega
  repeat (first | refine cg_seq ?_ | refine cg_region ?_ | refine rg_nil ?_ | refine eg_then ?_ | refine qsp ?_ | refine qsn ?_ | refine qsa ?_ | refine qss ?_ | refine qsi ?_ | refine qsz ?_ | refine qsl ?_ | refine qsg ?_ | refine qsf ?_ | refine qsd ?_ | refine qse ?_ | refine qsx ?_ | refine qso ?_ | refine cg_cond_true rfl ?_ | refine cg_cond_false rfl ?_ | refine cg_skip ?_ | refine cg_block ?_ | refine eg_in_normal ?_ | refine cg_ret ?_ | refine eg_then_ret ?_ | refine eg_in_ret ?_ | refine cg_exit ?_ | refine eg_then_exit ?_ | refine eg_in_exit ?_ | refine eg_in_other rfl ?_)
  cases hM : okM l with
  | false =>
    rw [hM] at hmc
    refine rs rfl rfl (loc_call_is rfl rfl rfl rfl (hmc)) ?_
    repeat (first | refine cg_seq ?_ | refine cg_region ?_ | refine rg_nil ?_ | refine eg_then ?_ | refine qsp ?_ | refine qsn ?_ | refine qsa ?_ | refine qss ?_ | refine qsi ?_ | refine qsz ?_ | refine qsl ?_ | refine qsg ?_ | refine qsf ?_ | refine qsd ?_ | refine qse ?_ | refine qsx ?_ | refine qso ?_ | refine cg_cond_true rfl ?_ | refine cg_cond_false rfl ?_ | refine cg_skip ?_ | refine cg_block ?_ | refine eg_in_normal ?_ | refine cg_ret ?_ | refine eg_then_ret ?_ | refine eg_in_ret ?_ | refine cg_exit ?_ | refine eg_then_exit ?_ | refine eg_in_exit ?_ | refine eg_in_other rfl ?_)
    exact eg_return rfl rfl (by simp [evenR, hM])
  | true =>
  rw [hM] at hmc
  refine rs rfl rfl (loc_call_is rfl rfl rfl rfl (hmc)) ?_
  repeat (first | refine cg_seq ?_ | refine cg_region ?_ | refine rg_nil ?_ | refine eg_then ?_ | refine qsp ?_ | refine qsn ?_ | refine qsa ?_ | refine qss ?_ | refine qsi ?_ | refine qsz ?_ | refine qsl ?_ | refine qsg ?_ | refine qsf ?_ | refine qsd ?_ | refine qse ?_ | refine qsx ?_ | refine qso ?_ | refine cg_cond_true rfl ?_ | refine cg_cond_false rfl ?_ | refine cg_skip ?_ | refine cg_block ?_ | refine eg_in_normal ?_ | refine cg_ret ?_ | refine eg_then_ret ?_ | refine eg_in_ret ?_ | refine cg_exit ?_ | refine eg_then_exit ?_ | refine eg_in_exit ?_ | refine eg_in_other rfl ?_)
  by_cases hnd : tps.Nodup
  · rw [decide_eq_true hnd] at hpc
    refine rs rfl rfl (loc_call_is rfl rfl rfl rfl (hpc)) ?_
    repeat (first | refine cg_seq ?_ | refine cg_region ?_ | refine rg_nil ?_ | refine eg_then ?_ | refine qsp ?_ | refine qsn ?_ | refine qsa ?_ | refine qss ?_ | refine qsi ?_ | refine qsz ?_ | refine qsl ?_ | refine qsg ?_ | refine qsf ?_ | refine qsd ?_ | refine qse ?_ | refine qsx ?_ | refine qso ?_ | refine cg_cond_true rfl ?_ | refine cg_cond_false rfl ?_ | refine cg_skip ?_ | refine cg_block ?_ | refine eg_in_normal ?_ | refine cg_ret ?_ | refine eg_then_ret ?_ | refine eg_in_ret ?_ | refine cg_exit ?_ | refine eg_then_exit ?_ | refine eg_in_exit ?_ | refine eg_in_other rfl ?_)
    by_cases hlen : own.length = l.length
    · have q1 : ((own.length : Int) != (l.length : Int)) = false := by simp [hlen]
      rw [q1]
      repeat (first | refine cg_seq ?_ | refine cg_region ?_ | refine rg_nil ?_ | refine eg_then ?_ | refine qsp ?_ | refine qsn ?_ | refine qsa ?_ | refine qss ?_ | refine qsi ?_ | refine qsz ?_ | refine qsl ?_ | refine qsg ?_ | refine qsf ?_ | refine qsd ?_ | refine qse ?_ | refine qsx ?_ | refine qso ?_ | refine cg_cond_true rfl ?_ | refine cg_cond_false rfl ?_ | refine cg_skip ?_ | refine cg_block ?_ | refine eg_in_normal ?_ | refine cg_ret ?_ | refine eg_then_ret ?_ | refine eg_in_ret ?_ | refine cg_exit ?_ | refine eg_then_exit ?_ | refine eg_in_exit ?_ | refine eg_in_other rfl ?_)
      refine cg_loop (fun (i : Nat) e k' => Le k k' ∧ i ≤ own.length ∧ (∀ j, j < i → (List.range (own.getD j []).length).all (goodR l tps own j) = true) ∧ e = [(0, .is (.slice a l.length c)), (1, .is (.slice b tps.length d)), (2, .is (.slice c' own.length e')), (34, .is (.slice c' own.length e')), (35, .is (.int .i64 (own.length : Int))), (36, .is (.int .i64 (i : Int)))])
        (fun i => own.length - i) 0 ⟨Le.refl _, Nat.zero_le _, fun j hj => by omega, rfl⟩ ⟨rfl, rfl, rfl, rfl, rfl, rfl, trivial⟩ ?_
      rintro i e k2 ⟨hle2, hi, hgood, rfl⟩
      repeat (first | refine cg_seq ?_ | refine cg_region ?_ | refine rg_nil ?_ | refine eg_then ?_ | refine qsp ?_ | refine qsn ?_ | refine qsa ?_ | refine qss ?_ | refine qsi ?_ | refine qsz ?_ | refine qsl ?_ | refine qsg ?_ | refine qsf ?_ | refine qsd ?_ | refine qse ?_ | refine qsx ?_ | refine qso ?_ | refine cg_cond_true rfl ?_ | refine cg_cond_false rfl ?_ | refine cg_skip ?_ | refine cg_block ?_ | refine eg_in_normal ?_ | refine cg_ret ?_ | refine eg_then_ret ?_ | refine eg_in_ret ?_ | refine cg_exit ?_ | refine eg_then_exit ?_ | refine eg_in_exit ?_ | refine eg_in_other rfl ?_)
      refine cg_cond rfl (fun h => ?_) (fun h => ?_)
      · have hlt : i < own.length := by simpa using h
        have hil : i < l.length := by omega
        obtain ⟨os, hos⟩ : ∃ os, own[i]? = some os := ⟨_, List.getElem?_eq_getElem hlt⟩
        have hgd : own.getD i [] = os := by rw [List.getD_eq_getElem?_getD, hos]; rfl
        obtain ⟨bx, ox, cx, rfl, ⟨ax, acx, rfl, hsx⟩, hcx⟩ := (ho.le hle2).el i os hos
        have b7 := hsx.cap; have b8 := hsx.max; unfold maxLen at b8
        have b9 := hlen1 i os hos
        obtain ⟨mi, hmi⟩ : ∃ mi, l[i]? = some mi := ⟨_, List.getElem?_eq_getElem hil⟩
        repeat (first | refine cg_seq ?_ | refine cg_region ?_ | refine rg_nil ?_ | refine eg_then ?_ | refine qsp ?_ | refine qsn ?_ | refine qsa ?_ | refine qss ?_ | refine qsi ?_ | refine qsz ?_ | refine qsl ?_ | refine qsg ?_ | refine qsf ?_ | refine qsd ?_ | refine qse ?_ | refine qsx ?_ | refine qso ?_ | refine cg_cond_true rfl ?_ | refine cg_cond_false rfl ?_ | refine cg_skip ?_ | refine cg_block ?_ | refine eg_in_normal ?_ | refine cg_ret ?_ | refine eg_then_ret ?_ | refine eg_in_ret ?_ | refine cg_exit ?_ | refine eg_then_exit ?_ | refine eg_in_exit ?_ | refine eg_in_other rfl ?_)
        refine cg_loop (fun (p : Nat) e k' => Le k2 k' ∧ p ≤ os.length ∧ (∀ q, q < p → goodR l tps own i q = true) ∧ e = [(0, .is (.slice a l.length c)), (1, .is (.slice b tps.length d)), (2, .is (.slice (some ⟨bx, ox, none⟩) own.length e')), (7, .is (.int .i64 (i : Int))), (8, .is (.slice ax os.length acx)), (34, .is (.slice (some ⟨bx, ox, none⟩) own.length e')), (35, .is (.int .i64 (own.length : Int))), (36, .is (.int .i64 (i : Int))), (41, .is (.slice ax os.length acx)), (42, .is (.int .i64 (os.length : Int))), (43, .is (.int .i64 (p : Int)))])
          (fun p => os.length - p) 0 ⟨Le.refl _, Nat.zero_le _, fun q hq => by omega, rfl⟩ ⟨rfl, rfl, rfl, rfl, rfl, rfl, rfl, rfl, rfl, rfl, rfl, trivial⟩ ?_
        rintro p e k3 ⟨hle3, hp, hgp, rfl⟩
        repeat (first | refine cg_seq ?_ | refine cg_region ?_ | refine rg_nil ?_ | refine eg_then ?_ | refine qsp ?_ | refine qsn ?_ | refine qsa ?_ | refine qss ?_ | refine qsi ?_ | refine qsz ?_ | refine qsl ?_ | refine qsg ?_ | refine qsf ?_ | refine qsd ?_ | refine qse ?_ | refine qsx ?_ | refine qso ?_ | refine cg_cond_true rfl ?_ | refine cg_cond_false rfl ?_ | refine cg_skip ?_ | refine cg_block ?_ | refine eg_in_normal ?_ | refine cg_ret ?_ | refine eg_then_ret ?_ | refine eg_in_ret ?_ | refine cg_exit ?_ | refine eg_then_exit ?_ | refine eg_in_exit ?_ | refine eg_in_other rfl ?_)
        refine cg_cond rfl (fun h1 => ?_) (fun h1 => ?_)
        · have hpt : p < os.length := by simpa using h1
          have hgr : goodR l tps own i p = (goodTp l tps own i os[p] && !decide (os[p] ∈ os.take p)) := by
            unfold goodR
            rw [hgd, List.getElem?_eq_getElem hpt]
          have hbad : goodR l tps own i p = false → evenR l tps own = false := evenR_bad hlt (by rw [hgd]; exact hpt)
          generalize htp : os[p] = tp at hgr
          obtain ⟨by', oy, cy, rfl, rfl, hcy⟩ := (hsx.le hle3).el p tp (by rw [← htp]; exact List.getElem?_eq_getElem hpt)
          repeat (first | refine cg_seq ?_ | refine cg_region ?_ | refine rg_nil ?_ | refine eg_then ?_ | refine qsp ?_ | refine qsn ?_ | refine qsa ?_ | refine qss ?_ | refine qsi ?_ | refine qsz ?_ | refine qsl ?_ | refine qsg ?_ | refine qsf ?_ | refine qsd ?_ | refine qse ?_ | refine qsx ?_ | refine qso ?_ | refine cg_cond_true rfl ?_ | refine cg_cond_false rfl ?_ | refine cg_skip ?_ | refine cg_block ?_ | refine eg_in_normal ?_ | refine cg_ret ?_ | refine eg_then_ret ?_ | refine eg_in_ret ?_ | refine cg_exit ?_ | refine eg_then_exit ?_ | refine eg_in_exit ?_ | refine eg_in_other rfl ?_)
          refine rb rfl rfl rfl rfl (a_alloc rfl) ?_; intro b9 k9 hb9 hN9 hle9 hk9
          repeat (first | refine cg_seq ?_ | refine cg_region ?_ | refine rg_nil ?_ | refine eg_then ?_ | refine qsp ?_ | refine qsn ?_ | refine qsa ?_ | refine qss ?_ | refine qsi ?_ | refine qsz ?_ | refine qsl ?_ | refine qsg ?_ | refine qsf ?_ | refine qsd ?_ | refine qse ?_ | refine qsx ?_ | refine qso ?_ | refine cg_cond_true rfl ?_ | refine cg_cond_false rfl ?_ | refine cg_skip ?_ | refine cg_block ?_ | refine eg_in_normal ?_ | refine cg_ret ?_ | refine eg_then_ret ?_ | refine eg_in_ret ?_ | refine cg_exit ?_ | refine eg_then_exit ?_ | refine eg_in_exit ?_ | refine eg_in_other rfl ?_)
          refine rw1 rfl rfl rfl rfl rfl rfl rfl hk9 rfl (.inl hN9) ?_ ?_; (simp [Tp.vs, memVs, Value.oneCell']); intro k10 ht10 hk10
          have hle10 := ht10 k3 hle9 hb9
          have hle010 := hle2.trans (hle3.trans hle10)
          have c9 := cells_at (vs := tp.vs) hk10 rfl
          obtain ⟨bm, om, cm, rfl, hrepm, hcm⟩ := (hl.le hle010).el i mi hmi
          have hcl := tMem.len hrepm
          have hhas := has_ct (ht.le hle010) tp
          have hwant := refWants_ct hrepm tp
          have hsx10 := hsx.le (hle3.trans hle10)
          have hhas2 := has_ct (hsx10.take p) tp
          by_cases hin : tp ∈ tps
          · rw [decide_eq_true hin] at hhas
            by_cases hw : tp.topic ∈ mi.subs
            · rw [decide_eq_true hw] at hwant
              by_cases htk : tp ∈ os.take p
              · rw [decide_eq_true htk] at hhas2
                have hgf : goodR l tps own i p = false := by rw [hgr]; simp [htk]
                repeat (first | refine cg_seq ?_ | refine cg_region ?_ | refine rg_nil ?_ | refine eg_then ?_ | refine qsp ?_ | refine qsn ?_ | refine qsa ?_ | refine qss ?_ | refine qsi ?_ | refine qsz ?_ | refine qsl ?_ | refine qsg ?_ | refine qsf ?_ | refine qsd ?_ | refine qse ?_ | refine qsx ?_ | refine qso ?_ | refine cg_cond_true rfl ?_ | refine cg_cond_false rfl ?_ | refine cg_skip ?_ | refine cg_block ?_ | refine eg_in_normal ?_ | refine cg_ret ?_ | refine eg_then_ret ?_ | refine eg_in_ret ?_ | refine cg_exit ?_ | refine eg_then_exit ?_ | refine eg_in_exit ?_ | refine eg_in_other rfl ?_)
                refine cg_any (by kernel_rfl) rfl ?_
                repeat (first | refine qwp ?_ | refine qwn ?_ | refine qwa ?_ | refine qws ?_ | refine qwi ?_ | refine qwz ?_ | refine qwl ?_ | refine qwg ?_ | refine qwf ?_ | refine qwd ?_ | refine qwe ?_ | refine qwx ?_ | refine qwo ?_ | (refine wn rfl ?_; refine eg_then ?_))
                refine ws rfl (loc_call_is rfl rfl rfl rfl (hhas)) ?_
                repeat (first | refine qwp ?_ | refine qwn ?_ | refine qwa ?_ | refine qws ?_ | refine qwi ?_ | refine qwz ?_ | refine qwl ?_ | refine qwg ?_ | refine qwf ?_ | refine qwd ?_ | refine qwe ?_ | refine qwx ?_ | refine qwo ?_ | (refine wn rfl ?_; refine eg_then ?_))
                refine ws rfl (loc_det rfl (d_load_agg (vs := cm) rfl rfl rfl hcl hcm)) ?_
                repeat (first | refine qwp ?_ | refine qwn ?_ | refine qwa ?_ | refine qws ?_ | refine qwi ?_ | refine qwz ?_ | refine qwl ?_ | refine qwg ?_ | refine qwf ?_ | refine qwd ?_ | refine qwe ?_ | refine qwx ?_ | refine qwo ?_ | (refine wn rfl ?_; refine eg_then ?_))
                refine ws rfl (loc_call_is rfl rfl rfl rfl (hwant)) ?_
                repeat (first | refine qwp ?_ | refine qwn ?_ | refine qwa ?_ | refine qws ?_ | refine qwi ?_ | refine qwz ?_ | refine qwl ?_ | refine qwg ?_ | refine qwf ?_ | refine qwd ?_ | refine qwe ?_ | refine qwx ?_ | refine qwo ?_ | (refine wn rfl ?_; refine eg_then ?_))
                refine ws rfl (loc_det rfl (d_pre hsx10 rfl rfl rfl (by omega))) ?_
                repeat (first | refine qwp ?_ | refine qwn ?_ | refine qwa ?_ | refine qws ?_ | refine qwi ?_ | refine qwz ?_ | refine qwl ?_ | refine qwg ?_ | refine qwf ?_ | refine qwd ?_ | refine qwe ?_ | refine qwx ?_ | refine qwo ?_ | (refine wn rfl ?_; refine eg_then ?_))
                refine ws rfl (loc_call_is rfl rfl rfl rfl (hhas2)) ?_
                repeat (first | refine qwp ?_ | refine qwn ?_ | refine qwa ?_ | refine qws ?_ | refine qwi ?_ | refine qwz ?_ | refine qwl ?_ | refine qwg ?_ | refine qwf ?_ | refine qwd ?_ | refine qwe ?_ | refine qwx ?_ | refine qwo ?_ | (refine wn rfl ?_; refine eg_then ?_))
                repeat (first | refine cg_seq ?_ | refine cg_region ?_ | refine rg_nil ?_ | refine eg_then ?_ | refine qsp ?_ | refine qsn ?_ | refine qsa ?_ | refine qss ?_ | refine qsi ?_ | refine qsz ?_ | refine qsl ?_ | refine qsg ?_ | refine qsf ?_ | refine qsd ?_ | refine qse ?_ | refine qsx ?_ | refine qso ?_ | refine cg_cond_true rfl ?_ | refine cg_cond_false rfl ?_ | refine cg_skip ?_ | refine cg_block ?_ | refine eg_in_normal ?_ | refine cg_ret ?_ | refine eg_then_ret ?_ | refine eg_in_ret ?_ | refine cg_exit ?_ | refine eg_then_exit ?_ | refine eg_in_exit ?_ | refine eg_in_other rfl ?_)
                exact eg_return rfl rfl (by rw [hbad hgf])
              · rw [decide_eq_false htk] at hhas2
                repeat (first | refine cg_seq ?_ | refine cg_region ?_ | refine rg_nil ?_ | refine eg_then ?_ | refine qsp ?_ | refine qsn ?_ | refine qsa ?_ | refine qss ?_ | refine qsi ?_ | refine qsz ?_ | refine qsl ?_ | refine qsg ?_ | refine qsf ?_ | refine qsd ?_ | refine qse ?_ | refine qsx ?_ | refine qso ?_ | refine cg_cond_true rfl ?_ | refine cg_cond_false rfl ?_ | refine cg_skip ?_ | refine cg_block ?_ | refine eg_in_normal ?_ | refine cg_ret ?_ | refine eg_then_ret ?_ | refine eg_in_ret ?_ | refine cg_exit ?_ | refine eg_then_exit ?_ | refine eg_in_exit ?_ | refine eg_in_other rfl ?_)
                refine cg_any (by kernel_rfl) rfl ?_
                repeat (first | refine qwp ?_ | refine qwn ?_ | refine qwa ?_ | refine qws ?_ | refine qwi ?_ | refine qwz ?_ | refine qwl ?_ | refine qwg ?_ | refine qwf ?_ | refine qwd ?_ | refine qwe ?_ | refine qwx ?_ | refine qwo ?_ | (refine wn rfl ?_; refine eg_then ?_))
                refine ws rfl (loc_call_is rfl rfl rfl rfl (hhas)) ?_
                repeat (first | refine qwp ?_ | refine qwn ?_ | refine qwa ?_ | refine qws ?_ | refine qwi ?_ | refine qwz ?_ | refine qwl ?_ | refine qwg ?_ | refine qwf ?_ | refine qwd ?_ | refine qwe ?_ | refine qwx ?_ | refine qwo ?_ | (refine wn rfl ?_; refine eg_then ?_))
                refine ws rfl (loc_det rfl (d_load_agg (vs := cm) rfl rfl rfl hcl hcm)) ?_
                repeat (first | refine qwp ?_ | refine qwn ?_ | refine qwa ?_ | refine qws ?_ | refine qwi ?_ | refine qwz ?_ | refine qwl ?_ | refine qwg ?_ | refine qwf ?_ | refine qwd ?_ | refine qwe ?_ | refine qwx ?_ | refine qwo ?_ | (refine wn rfl ?_; refine eg_then ?_))
                refine ws rfl (loc_call_is rfl rfl rfl rfl (hwant)) ?_
                repeat (first | refine qwp ?_ | refine qwn ?_ | refine qwa ?_ | refine qws ?_ | refine qwi ?_ | refine qwz ?_ | refine qwl ?_ | refine qwg ?_ | refine qwf ?_ | refine qwd ?_ | refine qwe ?_ | refine qwx ?_ | refine qwo ?_ | (refine wn rfl ?_; refine eg_then ?_))
                refine ws rfl (loc_det rfl (d_pre hsx10 rfl rfl rfl (by omega))) ?_
                repeat (first | refine qwp ?_ | refine qwn ?_ | refine qwa ?_ | refine qws ?_ | refine qwi ?_ | refine qwz ?_ | refine qwl ?_ | refine qwg ?_ | refine qwf ?_ | refine qwd ?_ | refine qwe ?_ | refine qwx ?_ | refine qwo ?_ | (refine wn rfl ?_; refine eg_then ?_))
                refine ws rfl (loc_call_is rfl rfl rfl rfl (hhas2)) ?_
                repeat (first | refine qwp ?_ | refine qwn ?_ | refine qwa ?_ | refine qws ?_ | refine qwi ?_ | refine qwz ?_ | refine qwl ?_ | refine qwg ?_ | refine qwf ?_ | refine qwd ?_ | refine qwe ?_ | refine qwx ?_ | refine qwo ?_ | (refine wn rfl ?_; refine eg_then ?_))
                repeat (first | refine cg_seq ?_ | refine cg_region ?_ | refine rg_nil ?_ | refine eg_then ?_ | refine qsp ?_ | refine qsn ?_ | refine qsa ?_ | refine qss ?_ | refine qsi ?_ | refine qsz ?_ | refine qsl ?_ | refine qsg ?_ | refine qsf ?_ | refine qsd ?_ | refine qse ?_ | refine qsx ?_ | refine qso ?_ | refine cg_cond_true rfl ?_ | refine cg_cond_false rfl ?_ | refine cg_skip ?_ | refine cg_block ?_ | refine eg_in_normal ?_ | refine cg_ret ?_ | refine eg_then_ret ?_ | refine eg_in_ret ?_ | refine cg_exit ?_ | refine eg_then_exit ?_ | refine eg_in_exit ?_ | refine eg_in_other rfl ?_)
                refine cg_loop (fun (q : Nat) e k' => Le k10 k' ∧ q ≤ l.length ∧ (∀ j, j < q → (!(decide (tp.topic ∈ ((l[j]?).map (·.subs)).getD []) && decide (((own.getD i []).length : Int) - ((own.getD j []).length : Int) > 1))) = true) ∧ e = [(0, .is (.slice (some ⟨bm, om, none⟩) l.length c)), (1, .is (.slice b tps.length d)), (2, .is (.slice (some ⟨bx, ox, none⟩) own.length e')), (7, .is (.int .i64 (i : Int))), (8, .is (.slice (some ⟨by', oy, none⟩) os.length acx)), (10, .is (.pointer (some ⟨b9, 0, none⟩))), (34, .is (.slice (some ⟨bx, ox, none⟩) own.length e')), (35, .is (.int .i64 (own.length : Int))), (36, .is (.int .i64 (i : Int))), (41, .is (.slice (some ⟨by', oy, none⟩) os.length acx)), (42, .is (.int .i64 (os.length : Int))), (43, .is (.int .i64 (p : Int))), (68, .is (.slice (some ⟨bm, om, none⟩) l.length c)), (69, .is (.int .i64 (l.length : Int))), (70, .is (.int .i64 (q : Int)))])
                  (fun q => l.length - q) 0 ⟨Le.refl _, Nat.zero_le _, fun j hj => by omega, rfl⟩ ⟨rfl, rfl, rfl, rfl, rfl, rfl, rfl, rfl, rfl, rfl, rfl, rfl, rfl, rfl, rfl, trivial⟩ ?_
                rintro q e k11 ⟨hle11, hq, hqs, rfl⟩
                repeat (first | refine cg_seq ?_ | refine cg_region ?_ | refine rg_nil ?_ | refine eg_then ?_ | refine qsp ?_ | refine qsn ?_ | refine qsa ?_ | refine qss ?_ | refine qsi ?_ | refine qsz ?_ | refine qsl ?_ | refine qsg ?_ | refine qsf ?_ | refine qsd ?_ | refine qse ?_ | refine qsx ?_ | refine qso ?_ | refine cg_cond_true rfl ?_ | refine cg_cond_false rfl ?_ | refine cg_skip ?_ | refine cg_block ?_ | refine eg_in_normal ?_ | refine cg_ret ?_ | refine eg_then_ret ?_ | refine eg_in_ret ?_ | refine cg_exit ?_ | refine eg_then_exit ?_ | refine eg_in_exit ?_ | refine eg_in_other rfl ?_)
                refine cg_cond rfl (fun h2 => ?_) (fun h2 => ?_)
                · have hql : q < l.length := by simpa using h2
                  obtain ⟨mq, hmq⟩ : ∃ mq, l[q]? = some mq := ⟨_, List.getElem?_eq_getElem hql⟩
                  obtain ⟨oq, hoq⟩ : ∃ oq, own[q]? = some oq := ⟨_, List.getElem?_eq_getElem (by omega)⟩
                  have hgq : own.getD q [] = oq := by rw [List.getD_eq_getElem?_getD, hoq]; rfl
                  have b10 := hlen1 q oq hoq
                  obtain ⟨bn, on', cn, en, hrepn, hcn⟩ := (hl.le (hle010.trans hle11)).el q mq hmq
                  cases en
                  have hrepn' := hrepn
                  obtain ⟨sa, sc, oa, oc, rfl, _⟩ := hrepn'
                  have c9' := c9.le hle11
                  repeat (first | refine cg_seq ?_ | refine cg_region ?_ | refine rg_nil ?_ | refine eg_then ?_ | refine qsp ?_ | refine qsn ?_ | refine qsa ?_ | refine qss ?_ | refine qsi ?_ | refine qsz ?_ | refine qsl ?_ | refine qsg ?_ | refine qsf ?_ | refine qsd ?_ | refine qse ?_ | refine qsx ?_ | refine qso ?_ | refine cg_cond_true rfl ?_ | refine cg_cond_false rfl ?_ | refine cg_skip ?_ | refine cg_block ?_ | refine eg_in_normal ?_ | refine cg_ret ?_ | refine eg_then_ret ?_ | refine eg_in_ret ?_ | refine cg_exit ?_ | refine eg_then_exit ?_ | refine eg_in_exit ?_ | refine eg_in_other rfl ?_)
                  refine rb rfl rfl rfl rfl (a_alloc rfl) ?_; intro b12 k12 hb12 hN12 hle12 hk12
                  repeat (first | refine cg_seq ?_ | refine cg_region ?_ | refine rg_nil ?_ | refine eg_then ?_ | refine qsp ?_ | refine qsn ?_ | refine qsa ?_ | refine qss ?_ | refine qsi ?_ | refine qsz ?_ | refine qsl ?_ | refine qsg ?_ | refine qsf ?_ | refine qsd ?_ | refine qse ?_ | refine qsx ?_ | refine qso ?_ | refine cg_cond_true rfl ?_ | refine cg_cond_false rfl ?_ | refine cg_skip ?_ | refine cg_block ?_ | refine eg_in_normal ?_ | refine cg_ret ?_ | refine eg_then_ret ?_ | refine eg_in_ret ?_ | refine cg_exit ?_ | refine eg_then_exit ?_ | refine eg_in_exit ?_ | refine eg_in_other rfl ?_)
                  refine rw1 rfl rfl rfl rfl rfl rfl rfl hk12 rfl (.inl hN12) ?_ ?_; (simp [Tp.vs, memVs, Value.oneCell']); intro k13 ht13 hk13
                  have hle13 := ht13 k11 hle12 hb12
                  have c13 := cells_at (vs := memVs mq sa sc oa oc) hk13 rfl
                  have c9'' := c9'.le hle13
                  have hwq := refWants_ct (tMem.mono hle13 hrepn) tp
                  obtain ⟨bo, oo, co, eo, ⟨aq, acq, rfl, hsq⟩, hcq⟩ := (ho.le (hle010.trans (hle11.trans hle13))).el q oq hoq
                  cases eo
                  by_cases hwn : tp.topic ∈ mq.subs
                  · rw [decide_eq_true hwn] at hwq
                    repeat (first | refine cg_seq ?_ | refine cg_region ?_ | refine rg_nil ?_ | refine eg_then ?_ | refine qsp ?_ | refine qsn ?_ | refine qsa ?_ | refine qss ?_ | refine qsi ?_ | refine qsz ?_ | refine qsl ?_ | refine qsg ?_ | refine qsf ?_ | refine qsd ?_ | refine qse ?_ | refine qsx ?_ | refine qso ?_ | refine cg_cond_true rfl ?_ | refine cg_cond_false rfl ?_ | refine cg_skip ?_ | refine cg_block ?_ | refine eg_in_normal ?_ | refine cg_ret ?_ | refine eg_then_ret ?_ | refine eg_in_ret ?_ | refine cg_exit ?_ | refine eg_then_exit ?_ | refine eg_in_exit ?_ | refine eg_in_other rfl ?_)
                    refine rs rfl rfl (loc_call_is rfl rfl rfl rfl (hwq)) ?_
                    repeat (first | refine cg_seq ?_ | refine cg_region ?_ | refine rg_nil ?_ | refine eg_then ?_ | refine qsp ?_ | refine qsn ?_ | refine qsa ?_ | refine qss ?_ | refine qsi ?_ | refine qsz ?_ | refine qsl ?_ | refine qsg ?_ | refine qsf ?_ | refine qsd ?_ | refine qse ?_ | refine qsx ?_ | refine qso ?_ | refine cg_cond_true rfl ?_ | refine cg_cond_false rfl ?_ | refine cg_skip ?_ | refine cg_block ?_ | refine eg_in_normal ?_ | refine cg_ret ?_ | refine eg_then_ret ?_ | refine eg_in_ret ?_ | refine cg_exit ?_ | refine eg_then_exit ?_ | refine eg_in_exit ?_ | refine eg_in_other rfl ?_)
                    refine cg_cond rfl (fun h3 => ?_) (fun h3 => ?_)
                    · repeat (first | refine cg_seq ?_ | refine cg_region ?_ | refine rg_nil ?_ | refine eg_then ?_ | refine qsp ?_ | refine qsn ?_ | refine qsa ?_ | refine qss ?_ | refine qsi ?_ | refine qsz ?_ | refine qsl ?_ | refine qsg ?_ | refine qsf ?_ | refine qsd ?_ | refine qse ?_ | refine qsx ?_ | refine qso ?_ | refine cg_cond_true rfl ?_ | refine cg_cond_false rfl ?_ | refine cg_skip ?_ | refine cg_block ?_ | refine eg_in_normal ?_ | refine cg_ret ?_ | refine eg_then_ret ?_ | refine eg_in_ret ?_ | refine cg_exit ?_ | refine eg_then_exit ?_ | refine eg_in_exit ?_ | refine eg_in_other rfl ?_)
                      refine eg_return rfl rfl ?_
                      rw [hbad]
                      rw [hgr]
                      have : goodTp l tps own i tp = false := by
                        have : ((List.range l.length).all fun k => !(decide (tp.topic ∈ ((l[k]?).map (·.subs)).getD []) && decide (((own.getD i []).length : Int) - ((own.getD k []).length : Int) > 1))) = false := by
                          rw [List.all_eq_false]
                          refine ⟨q, by simpa using hql, ?_⟩
                          rw [hmq, hgd, hgq]
                          simp at h3
                          simp [hwn]
                          omega
                        simp only [goodTp, this, Bool.and_false]
                      rw [this]
                      rfl
                    · repeat (first | refine cg_seq ?_ | refine cg_region ?_ | refine rg_nil ?_ | refine eg_then ?_ | refine qsp ?_ | refine qsn ?_ | refine qsa ?_ | refine qss ?_ | refine qsi ?_ | refine qsz ?_ | refine qsl ?_ | refine qsg ?_ | refine qsf ?_ | refine qsd ?_ | refine qse ?_ | refine qsx ?_ | refine qso ?_ | refine cg_cond_true rfl ?_ | refine cg_cond_false rfl ?_ | refine cg_skip ?_ | refine cg_block ?_ | refine eg_in_normal ?_ | refine cg_ret ?_ | refine eg_then_ret ?_ | refine eg_in_ret ?_ | refine cg_exit ?_ | refine eg_then_exit ?_ | refine eg_in_exit ?_ | refine eg_in_other rfl ?_)
                      refine eg_again (q + 1) _ ⟨hle11.trans hle13, hql, fun j hj => ?_, rfl⟩ (by omega) ⟨rfl, rfl, rfl, rfl, rfl, rfl, rfl, rfl, rfl, rfl, rfl, rfl, rfl, rfl, rfl, trivial⟩
                      by_cases hjq : j = q
                      · subst hjq
                        rw [hgd, hgq]
                        simp at h3
                        simp
                        omega
                      · exact hqs j (by omega)
                  · rw [decide_eq_false hwn] at hwq
                    repeat (first | refine cg_seq ?_ | refine cg_region ?_ | refine rg_nil ?_ | refine eg_then ?_ | refine qsp ?_ | refine qsn ?_ | refine qsa ?_ | refine qss ?_ | refine qsi ?_ | refine qsz ?_ | refine qsl ?_ | refine qsg ?_ | refine qsf ?_ | refine qsd ?_ | refine qse ?_ | refine qsx ?_ | refine qso ?_ | refine cg_cond_true rfl ?_ | refine cg_cond_false rfl ?_ | refine cg_skip ?_ | refine cg_block ?_ | refine eg_in_normal ?_ | refine cg_ret ?_ | refine eg_then_ret ?_ | refine eg_in_ret ?_ | refine cg_exit ?_ | refine eg_then_exit ?_ | refine eg_in_exit ?_ | refine eg_in_other rfl ?_)
                    refine rs rfl rfl (loc_call_is rfl rfl rfl rfl (hwq)) ?_
                    repeat (first | refine cg_seq ?_ | refine cg_region ?_ | refine rg_nil ?_ | refine eg_then ?_ | refine qsp ?_ | refine qsn ?_ | refine qsa ?_ | refine qss ?_ | refine qsi ?_ | refine qsz ?_ | refine qsl ?_ | refine qsg ?_ | refine qsf ?_ | refine qsd ?_ | refine qse ?_ | refine qsx ?_ | refine qso ?_ | refine cg_cond_true rfl ?_ | refine cg_cond_false rfl ?_ | refine cg_skip ?_ | refine cg_block ?_ | refine eg_in_normal ?_ | refine cg_ret ?_ | refine eg_then_ret ?_ | refine eg_in_ret ?_ | refine cg_exit ?_ | refine eg_then_exit ?_ | refine eg_in_exit ?_ | refine eg_in_other rfl ?_)
                    refine eg_again (q + 1) _ ⟨hle11.trans hle13, hql, fun j hj => ?_, rfl⟩ (by omega) ⟨rfl, rfl, rfl, rfl, rfl, rfl, rfl, rfl, rfl, rfl, rfl, rfl, rfl, rfl, rfl, trivial⟩
                    by_cases hjq : j = q
                    · subst hjq
                      rw [hmq]
                      simp [hwn]
                    · exact hqs j (by omega)
                · have hql : q = l.length := by simp at h2; omega
                  subst hql
                  have hgt : goodR l tps own i p = true := by
                    rw [hgr]
                    unfold goodTp
                    rw [hmi]
                    simp only [Option.map_some, Option.getD_some, decide_eq_true hw, decide_eq_true hin, decide_eq_false htk, Bool.true_and, Bool.not_false, Bool.and_true]
                    rw [List.all_eq_true]
                    intro j hj
                    exact hqs j (by simpa using hj)
                  repeat (first | refine cg_seq ?_ | refine cg_region ?_ | refine rg_nil ?_ | refine eg_then ?_ | refine qsp ?_ | refine qsn ?_ | refine qsa ?_ | refine qss ?_ | refine qsi ?_ | refine qsz ?_ | refine qsl ?_ | refine qsg ?_ | refine qsf ?_ | refine qsd ?_ | refine qse ?_ | refine qsx ?_ | refine qso ?_ | refine cg_cond_true rfl ?_ | refine cg_cond_false rfl ?_ | refine cg_skip ?_ | refine cg_block ?_ | refine eg_in_normal ?_ | refine cg_ret ?_ | refine eg_then_ret ?_ | refine eg_in_ret ?_ | refine cg_exit ?_ | refine eg_then_exit ?_ | refine eg_in_exit ?_ | refine eg_in_other rfl ?_)
                  refine eg_again (p + 1) _ ⟨hle3.trans (hle10.trans hle11), hpt, fun x hx => ?_, rfl⟩ (by omega) ⟨rfl, rfl, rfl, rfl, rfl, rfl, rfl, rfl, rfl, rfl, rfl, trivial⟩
                  by_cases hxp : x = p
                  · rw [hxp]; exact hgt
                  · exact hgp x (by omega)
            · rw [decide_eq_false hw] at hwant
              have hgf : goodR l tps own i p = false := by
                rw [hgr]
                unfold goodTp
                rw [hmi]
                simp [hw]
              repeat (first | refine cg_seq ?_ | refine cg_region ?_ | refine rg_nil ?_ | refine eg_then ?_ | refine qsp ?_ | refine qsn ?_ | refine qsa ?_ | refine qss ?_ | refine qsi ?_ | refine qsz ?_ | refine qsl ?_ | refine qsg ?_ | refine qsf ?_ | refine qsd ?_ | refine qse ?_ | refine qsx ?_ | refine qso ?_ | refine cg_cond_true rfl ?_ | refine cg_cond_false rfl ?_ | refine cg_skip ?_ | refine cg_block ?_ | refine eg_in_normal ?_ | refine cg_ret ?_ | refine eg_then_ret ?_ | refine eg_in_ret ?_ | refine cg_exit ?_ | refine eg_then_exit ?_ | refine eg_in_exit ?_ | refine eg_in_other rfl ?_)
              refine cg_any (by kernel_rfl) rfl ?_
              repeat (first | refine qwp ?_ | refine qwn ?_ | refine qwa ?_ | refine qws ?_ | refine qwi ?_ | refine qwz ?_ | refine qwl ?_ | refine qwg ?_ | refine qwf ?_ | refine qwd ?_ | refine qwe ?_ | refine qwx ?_ | refine qwo ?_ | (refine wn rfl ?_; refine eg_then ?_))
              refine ws rfl (loc_call_is rfl rfl rfl rfl (hhas)) ?_
              repeat (first | refine qwp ?_ | refine qwn ?_ | refine qwa ?_ | refine qws ?_ | refine qwi ?_ | refine qwz ?_ | refine qwl ?_ | refine qwg ?_ | refine qwf ?_ | refine qwd ?_ | refine qwe ?_ | refine qwx ?_ | refine qwo ?_ | (refine wn rfl ?_; refine eg_then ?_))
              refine ws rfl (loc_det rfl (d_load_agg (vs := cm) rfl rfl rfl hcl hcm)) ?_
              repeat (first | refine qwp ?_ | refine qwn ?_ | refine qwa ?_ | refine qws ?_ | refine qwi ?_ | refine qwz ?_ | refine qwl ?_ | refine qwg ?_ | refine qwf ?_ | refine qwd ?_ | refine qwe ?_ | refine qwx ?_ | refine qwo ?_ | (refine wn rfl ?_; refine eg_then ?_))
              refine ws rfl (loc_call_is rfl rfl rfl rfl (hwant)) ?_
              repeat (first | refine qwp ?_ | refine qwn ?_ | refine qwa ?_ | refine qws ?_ | refine qwi ?_ | refine qwz ?_ | refine qwl ?_ | refine qwg ?_ | refine qwf ?_ | refine qwd ?_ | refine qwe ?_ | refine qwx ?_ | refine qwo ?_ | (refine wn rfl ?_; refine eg_then ?_))
              repeat (first | refine cg_seq ?_ | refine cg_region ?_ | refine rg_nil ?_ | refine eg_then ?_ | refine qsp ?_ | refine qsn ?_ | refine qsa ?_ | refine qss ?_ | refine qsi ?_ | refine qsz ?_ | refine qsl ?_ | refine qsg ?_ | refine qsf ?_ | refine qsd ?_ | refine qse ?_ | refine qsx ?_ | refine qso ?_ | refine cg_cond_true rfl ?_ | refine cg_cond_false rfl ?_ | refine cg_skip ?_ | refine cg_block ?_ | refine eg_in_normal ?_ | refine cg_ret ?_ | refine eg_then_ret ?_ | refine eg_in_ret ?_ | refine cg_exit ?_ | refine eg_then_exit ?_ | refine eg_in_exit ?_ | refine eg_in_other rfl ?_)
              exact eg_return rfl rfl (by rw [hbad hgf])
          · rw [decide_eq_false hin] at hhas
            have hgf : goodR l tps own i p = false := by rw [hgr]; simp [goodTp, hin]
            repeat (first | refine cg_seq ?_ | refine cg_region ?_ | refine rg_nil ?_ | refine eg_then ?_ | refine qsp ?_ | refine qsn ?_ | refine qsa ?_ | refine qss ?_ | refine qsi ?_ | refine qsz ?_ | refine qsl ?_ | refine qsg ?_ | refine qsf ?_ | refine qsd ?_ | refine qse ?_ | refine qsx ?_ | refine qso ?_ | refine cg_cond_true rfl ?_ | refine cg_cond_false rfl ?_ | refine cg_skip ?_ | refine cg_block ?_ | refine eg_in_normal ?_ | refine cg_ret ?_ | refine eg_then_ret ?_ | refine eg_in_ret ?_ | refine cg_exit ?_ | refine eg_then_exit ?_ | refine eg_in_exit ?_ | refine eg_in_other rfl ?_)
            refine cg_any (by kernel_rfl) rfl ?_
            repeat (first | refine qwp ?_ | refine qwn ?_ | refine qwa ?_ | refine qws ?_ | refine qwi ?_ | refine qwz ?_ | refine qwl ?_ | refine qwg ?_ | refine qwf ?_ | refine qwd ?_ | refine qwe ?_ | refine qwx ?_ | refine qwo ?_ | (refine wn rfl ?_; refine eg_then ?_))
            refine ws rfl (loc_call_is rfl rfl rfl rfl (hhas)) ?_
            repeat (first | refine qwp ?_ | refine qwn ?_ | refine qwa ?_ | refine qws ?_ | refine qwi ?_ | refine qwz ?_ | refine qwl ?_ | refine qwg ?_ | refine qwf ?_ | refine qwd ?_ | refine qwe ?_ | refine qwx ?_ | refine qwo ?_ | (refine wn rfl ?_; refine eg_then ?_))
            repeat (first | refine cg_seq ?_ | refine cg_region ?_ | refine rg_nil ?_ | refine eg_then ?_ | refine qsp ?_ | refine qsn ?_ | refine qsa ?_ | refine qss ?_ | refine qsi ?_ | refine qsz ?_ | refine qsl ?_ | refine qsg ?_ | refine qsf ?_ | refine qsd ?_ | refine qse ?_ | refine qsx ?_ | refine qso ?_ | refine cg_cond_true rfl ?_ | refine cg_cond_false rfl ?_ | refine cg_skip ?_ | refine cg_block ?_ | refine eg_in_normal ?_ | refine cg_ret ?_ | refine eg_then_ret ?_ | refine eg_in_ret ?_ | refine cg_exit ?_ | refine eg_then_exit ?_ | refine eg_in_exit ?_ | refine eg_in_other rfl ?_)
            exact eg_return rfl rfl (by rw [hbad hgf])
        · have hpl : p = os.length := by simp at h1; omega
          have hil2 : (List.range (own.getD i []).length).all (goodR l tps own i) = true := by
            rw [hgd, List.all_eq_true]
            intro q hq
            exact hgp q (by rw [hpl]; simpa using hq)
          repeat (first | refine cg_seq ?_ | refine cg_region ?_ | refine rg_nil ?_ | refine eg_then ?_ | refine qsp ?_ | refine qsn ?_ | refine qsa ?_ | refine qss ?_ | refine qsi ?_ | refine qsz ?_ | refine qsl ?_ | refine qsg ?_ | refine qsf ?_ | refine qsd ?_ | refine qse ?_ | refine qsx ?_ | refine qso ?_ | refine cg_cond_true rfl ?_ | refine cg_cond_false rfl ?_ | refine cg_skip ?_ | refine cg_block ?_ | refine eg_in_normal ?_ | refine cg_ret ?_ | refine eg_then_ret ?_ | refine eg_in_ret ?_ | refine cg_exit ?_ | refine eg_then_exit ?_ | refine eg_in_exit ?_ | refine eg_in_other rfl ?_)
          refine eg_again (i + 1) _ ⟨hle2.trans hle3, hlt, fun j hj => ?_, rfl⟩ (by omega) ⟨rfl, rfl, rfl, rfl, rfl, rfl, trivial⟩
          by_cases hji : j = i
          · rw [hji]; exact hil2
          · exact hgood j (by omega)
      · have hio : i = own.length := by simp at h; omega
        subst hio
        have hall : ((List.range own.length).all fun i => (List.range (own.getD i []).length).all (goodR l tps own i)) = true := by
          rw [List.all_eq_true]
          exact fun j hj => hgood j (by simpa using hj)
        repeat (first | refine cg_seq ?_ | refine cg_region ?_ | refine rg_nil ?_ | refine eg_then ?_ | refine qsp ?_ | refine qsn ?_ | refine qsa ?_ | refine qss ?_ | refine qsi ?_ | refine qsz ?_ | refine qsl ?_ | refine qsg ?_ | refine qsf ?_ | refine qsd ?_ | refine qse ?_ | refine qsx ?_ | refine qso ?_ | refine cg_cond_true rfl ?_ | refine cg_cond_false rfl ?_ | refine cg_skip ?_ | refine cg_block ?_ | refine eg_in_normal ?_ | refine cg_ret ?_ | refine eg_then_ret ?_ | refine eg_in_ret ?_ | refine cg_exit ?_ | refine eg_then_exit ?_ | refine eg_in_exit ?_ | refine eg_in_other rfl ?_)
        refine cg_loop (fun (p : Nat) e k' => Le k k' ∧ p ≤ tps.length ∧ (∀ q (hq : q < tps.length), q < p → okTp l own tps[q] = true) ∧ e = [(0, .is (.slice a l.length c)), (2, .is (.slice c' own.length e')), (92, .is (.slice b tps.length d)), (93, .is (.int .i64 (tps.length : Int))), (94, .is (.int .i64 (p : Int)))])
          (fun p => tps.length - p) 0 ⟨hle2, Nat.zero_le _, fun q _ hq => by omega, rfl⟩ ⟨rfl, rfl, rfl, rfl, rfl, trivial⟩ ?_
        rintro p e k3 ⟨hle3, hp, hokp, rfl⟩
        repeat (first | refine cg_seq ?_ | refine cg_region ?_ | refine rg_nil ?_ | refine eg_then ?_ | refine qsp ?_ | refine qsn ?_ | refine qsa ?_ | refine qss ?_ | refine qsi ?_ | refine qsz ?_ | refine qsl ?_ | refine qsg ?_ | refine qsf ?_ | refine qsd ?_ | refine qse ?_ | refine qsx ?_ | refine qso ?_ | refine cg_cond_true rfl ?_ | refine cg_cond_false rfl ?_ | refine cg_skip ?_ | refine cg_block ?_ | refine eg_in_normal ?_ | refine cg_ret ?_ | refine eg_then_ret ?_ | refine eg_in_ret ?_ | refine cg_exit ?_ | refine eg_then_exit ?_ | refine eg_in_exit ?_ | refine eg_in_other rfl ?_)
        refine cg_cond rfl (fun h1 => ?_) (fun h1 => ?_)
        · have hpt : p < tps.length := by simpa using h1
          have hmem : tps[p] ∈ tps := List.getElem_mem hpt
          have hnext : okTp l own tps[p] = true → ∀ q (hq : q < tps.length), q < p + 1 → okTp l own tps[q] = true := fun hh q hq hqp => by
            by_cases hqe : q = p
            · subst hqe; exact hh
            · exact hokp q hq (by omega)
          generalize htp : tps[p] = tp at hmem hnext
          obtain ⟨by', oy, cy, rfl, rfl, hcy⟩ := (ht.le hle3).el p tp (by rw [← htp]; exact List.getElem?_eq_getElem hpt)
          repeat (first | refine cg_seq ?_ | refine cg_region ?_ | refine rg_nil ?_ | refine eg_then ?_ | refine qsp ?_ | refine qsn ?_ | refine qsa ?_ | refine qss ?_ | refine qsi ?_ | refine qsz ?_ | refine qsl ?_ | refine qsg ?_ | refine qsf ?_ | refine qsd ?_ | refine qse ?_ | refine qsx ?_ | refine qso ?_ | refine cg_cond_true rfl ?_ | refine cg_cond_false rfl ?_ | refine cg_skip ?_ | refine cg_block ?_ | refine eg_in_normal ?_ | refine cg_ret ?_ | refine eg_then_ret ?_ | refine eg_in_ret ?_ | refine cg_exit ?_ | refine eg_then_exit ?_ | refine eg_in_exit ?_ | refine eg_in_other rfl ?_)
          refine rb rfl rfl rfl rfl (a_alloc rfl) ?_; intro b9 k9 hb9 hN9 hle9 hk9
          refine rw1 rfl rfl rfl rfl rfl rfl rfl hk9 rfl (.inl hN9) ?_ ?_; (simp [Tp.vs, memVs, Value.oneCell']); intro k10 ht10 hk10
          have hle10 := ht10 k3 hle9 hb9
          have c9 := cells_at (vs := tp.vs) hk10 rfl
          repeat (first | refine cg_seq ?_ | refine cg_region ?_ | refine rg_nil ?_ | refine eg_then ?_ | refine qsp ?_ | refine qsn ?_ | refine qsa ?_ | refine qss ?_ | refine qsi ?_ | refine qsz ?_ | refine qsl ?_ | refine qsg ?_ | refine qsf ?_ | refine qsd ?_ | refine qse ?_ | refine qsx ?_ | refine qso ?_ | refine cg_cond_true rfl ?_ | refine cg_cond_false rfl ?_ | refine cg_skip ?_ | refine cg_block ?_ | refine eg_in_normal ?_ | refine cg_ret ?_ | refine eg_then_ret ?_ | refine eg_in_ret ?_ | refine cg_exit ?_ | refine eg_then_exit ?_ | refine eg_in_exit ?_ | refine eg_in_other rfl ?_)
          refine cg_loop (fun (i : Nat) e k' => Le k10 k' ∧ i ≤ l.length ∧ e = [(0, .is (.slice a l.length c)), (2, .is (.slice c' own.length e')), (14, .is (.pointer (some ⟨b9, 0, none⟩))), (15, .is (.bool ((l.take i).any fun m => decide (tp.topic ∈ m.subs)))), (16, .is (.int .i64 (((own.take i).countP fun r => decide (tp ∈ r) : Nat) : Int))), (92, .is (.slice (some ⟨by', oy, none⟩) tps.length d)), (93, .is (.int .i64 (tps.length : Int))), (94, .is (.int .i64 (p : Int))), (98, .is (.slice a l.length c)), (99, .is (.int .i64 (l.length : Int))), (100, .is (.int .i64 (i : Int)))])
            (fun i => l.length - i) 0 ⟨Le.refl _, Nat.zero_le _, rfl⟩ ⟨rfl, rfl, rfl, rfl, rfl, rfl, rfl, rfl, rfl, rfl, rfl, trivial⟩ ?_
          rintro i e k11 ⟨hle11, hi, rfl⟩
          have hcl : ((own.take i).countP fun r => decide (tp ∈ r)) ≤ i := Nat.le_trans List.countP_le_length (by rw [List.length_take]; omega)
          repeat (first | refine cg_seq ?_ | refine cg_region ?_ | refine rg_nil ?_ | refine eg_then ?_ | refine qsp ?_ | refine qsn ?_ | refine qsa ?_ | refine qss ?_ | refine qsi ?_ | refine qsz ?_ | refine qsl ?_ | refine qsg ?_ | refine qsf ?_ | refine qsd ?_ | refine qse ?_ | refine qsx ?_ | refine qso ?_ | refine cg_cond_true rfl ?_ | refine cg_cond_false rfl ?_ | refine cg_skip ?_ | refine cg_block ?_ | refine eg_in_normal ?_ | refine cg_ret ?_ | refine eg_then_ret ?_ | refine eg_in_ret ?_ | refine cg_exit ?_ | refine eg_then_exit ?_ | refine eg_in_exit ?_ | refine eg_in_other rfl ?_)
          refine cg_cond rfl (fun h2 => ?_) (fun h2 => ?_)
          · have hil : i < l.length := by simpa using h2
            have hio : i < own.length := by omega
            obtain ⟨mi, hmi⟩ : ∃ mi, l[i]? = some mi := ⟨_, List.getElem?_eq_getElem hil⟩
            obtain ⟨os, hos⟩ : ∃ os, own[i]? = some os := ⟨_, List.getElem?_eq_getElem hio⟩
            have hany : ((l.take (i + 1)).any fun m => decide (tp.topic ∈ m.subs)) = (((l.take i).any fun m => decide (tp.topic ∈ m.subs)) || decide (tp.topic ∈ mi.subs)) := by
              rw [List.take_add_one, hmi, List.any_append]
              simp
            have hcnt : ((own.take (i + 1)).countP fun r => decide (tp ∈ r)) = ((own.take i).countP fun r => decide (tp ∈ r)) + if tp ∈ os then 1 else 0 := by
              rw [List.take_add_one, hos, List.countP_append]
              simp [List.countP_cons]
            obtain ⟨bn, on', cn, rfl, hrepn, hcn⟩ := (hl.le (hle3.trans (hle10.trans hle11))).el i mi hmi
            have hrepn' := hrepn
            obtain ⟨sa, sc, oa, oc, rfl, _⟩ := hrepn'
            have c9' := c9.le hle11
            repeat (first | refine cg_seq ?_ | refine cg_region ?_ | refine rg_nil ?_ | refine eg_then ?_ | refine qsp ?_ | refine qsn ?_ | refine qsa ?_ | refine qss ?_ | refine qsi ?_ | refine qsz ?_ | refine qsl ?_ | refine qsg ?_ | refine qsf ?_ | refine qsd ?_ | refine qse ?_ | refine qsx ?_ | refine qso ?_ | refine cg_cond_true rfl ?_ | refine cg_cond_false rfl ?_ | refine cg_skip ?_ | refine cg_block ?_ | refine eg_in_normal ?_ | refine cg_ret ?_ | refine eg_then_ret ?_ | refine eg_in_ret ?_ | refine cg_exit ?_ | refine eg_then_exit ?_ | refine eg_in_exit ?_ | refine eg_in_other rfl ?_)
            refine rb rfl rfl rfl rfl (a_alloc rfl) ?_; intro b12 k12 hb12 hN12 hle12 hk12
            repeat (first | refine cg_seq ?_ | refine cg_region ?_ | refine rg_nil ?_ | refine eg_then ?_ | refine qsp ?_ | refine qsn ?_ | refine qsa ?_ | refine qss ?_ | refine qsi ?_ | refine qsz ?_ | refine qsl ?_ | refine qsg ?_ | refine qsf ?_ | refine qsd ?_ | refine qse ?_ | refine qsx ?_ | refine qso ?_ | refine cg_cond_true rfl ?_ | refine cg_cond_false rfl ?_ | refine cg_skip ?_ | refine cg_block ?_ | refine eg_in_normal ?_ | refine cg_ret ?_ | refine eg_then_ret ?_ | refine eg_in_ret ?_ | refine cg_exit ?_ | refine eg_then_exit ?_ | refine eg_in_exit ?_ | refine eg_in_other rfl ?_)
            refine rw1 rfl rfl rfl rfl rfl rfl rfl hk12 rfl (.inl hN12) ?_ ?_; (simp [Tp.vs, memVs, Value.oneCell']); intro k13 ht13 hk13
            have hle13 := ht13 k11 hle12 hb12
            have c13 := cells_at (vs := memVs mi sa sc oa oc) hk13 rfl
            have c9'' := c9'.le hle13
            have hwq := refWants_ct (tMem.mono hle13 hrepn) tp
            obtain ⟨bo, oo, co, rfl, ⟨aq, acq, rfl, hsq⟩, hcq⟩ := (ho.le (hle3.trans (hle10.trans (hle11.trans hle13)))).el i os hos
            have hhas := has_ct hsq tp
            generalize hcv : ((own.take i).countP fun r => decide (tp ∈ r)) = cv at hcl hcnt
            cases hwt : ((l.take i).any fun m => decide (tp.topic ∈ m.subs)) with
            | true =>
              rw [hwt] at hany
              repeat (first | refine cg_seq ?_ | refine cg_region ?_ | refine rg_nil ?_ | refine eg_then ?_ | refine qsp ?_ | refine qsn ?_ | refine qsa ?_ | refine qss ?_ | refine qsi ?_ | refine qsz ?_ | refine qsl ?_ | refine qsg ?_ | refine qsf ?_ | refine qsd ?_ | refine qse ?_ | refine qsx ?_ | refine qso ?_ | refine cg_cond_true rfl ?_ | refine cg_cond_false rfl ?_ | refine cg_skip ?_ | refine cg_block ?_ | refine eg_in_normal ?_ | refine cg_ret ?_ | refine eg_then_ret ?_ | refine eg_in_ret ?_ | refine cg_exit ?_ | refine eg_then_exit ?_ | refine eg_in_exit ?_ | refine eg_in_other rfl ?_)
              refine cg_any (by kernel_rfl) rfl ?_
              repeat (first | refine qwp ?_ | refine qwn ?_ | refine qwa ?_ | refine qws ?_ | refine qwi ?_ | refine qwz ?_ | refine qwl ?_ | refine qwg ?_ | refine qwf ?_ | refine qwd ?_ | refine qwe ?_ | refine qwx ?_ | refine qwo ?_ | (refine wn rfl ?_; refine eg_then ?_))
              refine ws rfl (loc_call_is rfl rfl rfl rfl (hhas)) ?_
              repeat (first | refine qwp ?_ | refine qwn ?_ | refine qwa ?_ | refine qws ?_ | refine qwi ?_ | refine qwz ?_ | refine qwl ?_ | refine qwg ?_ | refine qwf ?_ | refine qwd ?_ | refine qwe ?_ | refine qwx ?_ | refine qwo ?_ | (refine wn rfl ?_; refine eg_then ?_))
              refine cg_cond rfl (fun h4 => ?_) (fun h4 => ?_)
              · have h5 : tp ∈ os := by simpa using h4
                repeat (first | refine cg_seq ?_ | refine cg_region ?_ | refine rg_nil ?_ | refine eg_then ?_ | refine qsp ?_ | refine qsn ?_ | refine qsa ?_ | refine qss ?_ | refine qsi ?_ | refine qsz ?_ | refine qsl ?_ | refine qsg ?_ | refine qsf ?_ | refine qsd ?_ | refine qse ?_ | refine qsx ?_ | refine qso ?_ | refine cg_cond_true rfl ?_ | refine cg_cond_false rfl ?_ | refine cg_skip ?_ | refine cg_block ?_ | refine eg_in_normal ?_ | refine cg_ret ?_ | refine eg_then_ret ?_ | refine eg_in_ret ?_ | refine cg_exit ?_ | refine eg_then_exit ?_ | refine eg_in_exit ?_ | refine eg_in_other rfl ?_)
                refine eg_again (i + 1) _ ⟨hle11.trans hle13, hil, rfl⟩ (by omega) ⟨rfl, rfl, rfl, by rw [hany]; rfl, by rw [hcnt, if_pos h5]; rfl, rfl, rfl, rfl, rfl, rfl, rfl, trivial⟩
              · have h5 : ¬ tp ∈ os := by simpa using h4
                repeat (first | refine cg_seq ?_ | refine cg_region ?_ | refine rg_nil ?_ | refine eg_then ?_ | refine qsp ?_ | refine qsn ?_ | refine qsa ?_ | refine qss ?_ | refine qsi ?_ | refine qsz ?_ | refine qsl ?_ | refine qsg ?_ | refine qsf ?_ | refine qsd ?_ | refine qse ?_ | refine qsx ?_ | refine qso ?_ | refine cg_cond_true rfl ?_ | refine cg_cond_false rfl ?_ | refine cg_skip ?_ | refine cg_block ?_ | refine eg_in_normal ?_ | refine cg_ret ?_ | refine eg_then_ret ?_ | refine eg_in_ret ?_ | refine cg_exit ?_ | refine eg_then_exit ?_ | refine eg_in_exit ?_ | refine eg_in_other rfl ?_)
                refine eg_again (i + 1) _ ⟨hle11.trans hle13, hil, rfl⟩ (by omega) ⟨rfl, rfl, rfl, by rw [hany]; rfl, by rw [hcnt, if_neg h5]; rfl, rfl, rfl, rfl, rfl, rfl, rfl, trivial⟩
            | false =>
              rw [hwt] at hany
              repeat (first | refine cg_seq ?_ | refine cg_region ?_ | refine rg_nil ?_ | refine eg_then ?_ | refine qsp ?_ | refine qsn ?_ | refine qsa ?_ | refine qss ?_ | refine qsi ?_ | refine qsz ?_ | refine qsl ?_ | refine qsg ?_ | refine qsf ?_ | refine qsd ?_ | refine qse ?_ | refine qsx ?_ | refine qso ?_ | refine cg_cond_true rfl ?_ | refine cg_cond_false rfl ?_ | refine cg_skip ?_ | refine cg_block ?_ | refine eg_in_normal ?_ | refine cg_ret ?_ | refine eg_then_ret ?_ | refine eg_in_ret ?_ | refine cg_exit ?_ | refine eg_then_exit ?_ | refine eg_in_exit ?_ | refine eg_in_other rfl ?_)
              refine rs rfl rfl (loc_call_is rfl rfl rfl rfl (hwq)) ?_
              repeat (first | refine cg_seq ?_ | refine cg_region ?_ | refine rg_nil ?_ | refine eg_then ?_ | refine qsp ?_ | refine qsn ?_ | refine qsa ?_ | refine qss ?_ | refine qsi ?_ | refine qsz ?_ | refine qsl ?_ | refine qsg ?_ | refine qsf ?_ | refine qsd ?_ | refine qse ?_ | refine qsx ?_ | refine qso ?_ | refine cg_cond_true rfl ?_ | refine cg_cond_false rfl ?_ | refine cg_skip ?_ | refine cg_block ?_ | refine eg_in_normal ?_ | refine cg_ret ?_ | refine eg_then_ret ?_ | refine eg_in_ret ?_ | refine cg_exit ?_ | refine eg_then_exit ?_ | refine eg_in_exit ?_ | refine eg_in_other rfl ?_)
              refine cg_any (by kernel_rfl) rfl ?_
              repeat (first | refine qwp ?_ | refine qwn ?_ | refine qwa ?_ | refine qws ?_ | refine qwi ?_ | refine qwz ?_ | refine qwl ?_ | refine qwg ?_ | refine qwf ?_ | refine qwd ?_ | refine qwe ?_ | refine qwx ?_ | refine qwo ?_ | (refine wn rfl ?_; refine eg_then ?_))
              refine ws rfl (loc_call_is rfl rfl rfl rfl (hhas)) ?_
              repeat (first | refine qwp ?_ | refine qwn ?_ | refine qwa ?_ | refine qws ?_ | refine qwi ?_ | refine qwz ?_ | refine qwl ?_ | refine qwg ?_ | refine qwf ?_ | refine qwd ?_ | refine qwe ?_ | refine qwx ?_ | refine qwo ?_ | (refine wn rfl ?_; refine eg_then ?_))
              refine cg_cond rfl (fun h4 => ?_) (fun h4 => ?_)
              · have h5 : tp ∈ os := by simpa using h4
                repeat (first | refine cg_seq ?_ | refine cg_region ?_ | refine rg_nil ?_ | refine eg_then ?_ | refine qsp ?_ | refine qsn ?_ | refine qsa ?_ | refine qss ?_ | refine qsi ?_ | refine qsz ?_ | refine qsl ?_ | refine qsg ?_ | refine qsf ?_ | refine qsd ?_ | refine qse ?_ | refine qsx ?_ | refine qso ?_ | refine cg_cond_true rfl ?_ | refine cg_cond_false rfl ?_ | refine cg_skip ?_ | refine cg_block ?_ | refine eg_in_normal ?_ | refine cg_ret ?_ | refine eg_then_ret ?_ | refine eg_in_ret ?_ | refine cg_exit ?_ | refine eg_then_exit ?_ | refine eg_in_exit ?_ | refine eg_in_other rfl ?_)
                refine eg_again (i + 1) _ ⟨hle11.trans hle13, hil, rfl⟩ (by omega) ⟨rfl, rfl, rfl, by rw [hany]; rfl, by rw [hcnt, if_pos h5]; rfl, rfl, rfl, rfl, rfl, rfl, rfl, trivial⟩
              · have h5 : ¬ tp ∈ os := by simpa using h4
                repeat (first | refine cg_seq ?_ | refine cg_region ?_ | refine rg_nil ?_ | refine eg_then ?_ | refine qsp ?_ | refine qsn ?_ | refine qsa ?_ | refine qss ?_ | refine qsi ?_ | refine qsz ?_ | refine qsl ?_ | refine qsg ?_ | refine qsf ?_ | refine qsd ?_ | refine qse ?_ | refine qsx ?_ | refine qso ?_ | refine cg_cond_true rfl ?_ | refine cg_cond_false rfl ?_ | refine cg_skip ?_ | refine cg_block ?_ | refine eg_in_normal ?_ | refine cg_ret ?_ | refine eg_then_ret ?_ | refine eg_in_ret ?_ | refine cg_exit ?_ | refine eg_then_exit ?_ | refine eg_in_exit ?_ | refine eg_in_other rfl ?_)
                refine eg_again (i + 1) _ ⟨hle11.trans hle13, hil, rfl⟩ (by omega) ⟨rfl, rfl, rfl, by rw [hany]; rfl, by rw [hcnt, if_neg h5]; rfl, rfl, rfl, rfl, rfl, rfl, rfl, trivial⟩
          · have hil : i = l.length := by simp at h2; omega
            have hany : ((l.take i).any fun m => decide (tp.topic ∈ m.subs)) = anyW l tp := by rw [hil, List.take_length]; rfl
            have hmet : ((own.take i).countP fun r => decide (tp ∈ r)) = metN own tp := by rw [hil, ← hlen, List.take_length]; rfl
            rw [hany, hmet]
            have hok1 : okTp l own tp = !(anyW l tp && !decide (metN own tp = 1) || decide (metN own tp > 1)) := rfl
            generalize metN own tp = met at hok1
            cases haw : anyW l tp with
            | true =>
              rw [haw] at hok1
              by_cases hm1 : met = 1
              · subst hm1
                repeat (first | refine cg_seq ?_ | refine cg_region ?_ | refine rg_nil ?_ | refine eg_then ?_ | refine qsp ?_ | refine qsn ?_ | refine qsa ?_ | refine qss ?_ | refine qsi ?_ | refine qsz ?_ | refine qsl ?_ | refine qsg ?_ | refine qsf ?_ | refine qsd ?_ | refine qse ?_ | refine qsx ?_ | refine qso ?_ | refine cg_cond_true rfl ?_ | refine cg_cond_false rfl ?_ | refine cg_skip ?_ | refine cg_block ?_ | refine eg_in_normal ?_ | refine cg_ret ?_ | refine eg_then_ret ?_ | refine eg_in_ret ?_ | refine cg_exit ?_ | refine eg_then_exit ?_ | refine eg_in_exit ?_ | refine eg_in_other rfl ?_)
                exact eg_again (p + 1) _ ⟨hle3.trans (hle10.trans hle11), hpt, hnext (by rw [hok1]; rfl), rfl⟩ (by omega) ⟨rfl, rfl, rfl, rfl, rfl, trivial⟩
              · have q5 : ((met : Int) != 1) = true := by simp; omega
                repeat (first | refine cg_seq ?_ | refine cg_region ?_ | refine rg_nil ?_ | refine eg_then ?_ | refine qsp ?_ | refine qsn ?_ | refine qsa ?_ | refine qss ?_ | refine qsi ?_ | refine qsz ?_ | refine qsl ?_ | refine qsg ?_ | refine qsf ?_ | refine qsd ?_ | refine qse ?_ | refine qsx ?_ | refine qso ?_ | refine cg_cond_true rfl ?_ | refine cg_cond_false rfl ?_ | refine cg_skip ?_ | refine cg_block ?_ | refine eg_in_normal ?_ | refine cg_ret ?_ | refine eg_then_ret ?_ | refine eg_in_ret ?_ | refine cg_exit ?_ | refine eg_then_exit ?_ | refine eg_in_exit ?_ | refine eg_in_other rfl ?_)
                rw [q5]
                repeat (first | refine cg_seq ?_ | refine cg_region ?_ | refine rg_nil ?_ | refine eg_then ?_ | refine qsp ?_ | refine qsn ?_ | refine qsa ?_ | refine qss ?_ | refine qsi ?_ | refine qsz ?_ | refine qsl ?_ | refine qsg ?_ | refine qsf ?_ | refine qsd ?_ | refine qse ?_ | refine qsx ?_ | refine qso ?_ | refine cg_cond_true rfl ?_ | refine cg_cond_false rfl ?_ | refine cg_skip ?_ | refine cg_block ?_ | refine eg_in_normal ?_ | refine cg_ret ?_ | refine eg_then_ret ?_ | refine eg_in_ret ?_ | refine cg_exit ?_ | refine eg_then_exit ?_ | refine eg_in_exit ?_ | refine eg_in_other rfl ?_)
                exact eg_return rfl rfl (by rw [evenR_bad2 hmem]; rw [hok1]; simp [hm1])
            | false =>
              rw [haw] at hok1
              repeat (first | refine cg_seq ?_ | refine cg_region ?_ | refine rg_nil ?_ | refine eg_then ?_ | refine qsp ?_ | refine qsn ?_ | refine qsa ?_ | refine qss ?_ | refine qsi ?_ | refine qsz ?_ | refine qsl ?_ | refine qsg ?_ | refine qsf ?_ | refine qsd ?_ | refine qse ?_ | refine qsx ?_ | refine qso ?_ | refine cg_cond_true rfl ?_ | refine cg_cond_false rfl ?_ | refine cg_skip ?_ | refine cg_block ?_ | refine eg_in_normal ?_ | refine cg_ret ?_ | refine eg_then_ret ?_ | refine eg_in_ret ?_ | refine cg_exit ?_ | refine eg_then_exit ?_ | refine eg_in_exit ?_ | refine eg_in_other rfl ?_)
              refine cg_cond rfl (fun h4 => ?_) (fun h4 => ?_)
              · repeat (first | refine cg_seq ?_ | refine cg_region ?_ | refine rg_nil ?_ | refine eg_then ?_ | refine qsp ?_ | refine qsn ?_ | refine qsa ?_ | refine qss ?_ | refine qsi ?_ | refine qsz ?_ | refine qsl ?_ | refine qsg ?_ | refine qsf ?_ | refine qsd ?_ | refine qse ?_ | refine qsx ?_ | refine qso ?_ | refine cg_cond_true rfl ?_ | refine cg_cond_false rfl ?_ | refine cg_skip ?_ | refine cg_block ?_ | refine eg_in_normal ?_ | refine cg_ret ?_ | refine eg_then_ret ?_ | refine eg_in_ret ?_ | refine cg_exit ?_ | refine eg_then_exit ?_ | refine eg_in_exit ?_ | refine eg_in_other rfl ?_)
                refine eg_return rfl rfl ?_
                rw [evenR_bad2 hmem]
                rw [hok1]
                simp at h4
                simp
                omega
              · repeat (first | refine cg_seq ?_ | refine cg_region ?_ | refine rg_nil ?_ | refine eg_then ?_ | refine qsp ?_ | refine qsn ?_ | refine qsa ?_ | refine qss ?_ | refine qsi ?_ | refine qsz ?_ | refine qsl ?_ | refine qsg ?_ | refine qsf ?_ | refine qsd ?_ | refine qse ?_ | refine qsx ?_ | refine qso ?_ | refine cg_cond_true rfl ?_ | refine cg_cond_false rfl ?_ | refine cg_skip ?_ | refine cg_block ?_ | refine eg_in_normal ?_ | refine cg_ret ?_ | refine eg_then_ret ?_ | refine eg_in_ret ?_ | refine cg_exit ?_ | refine eg_then_exit ?_ | refine eg_in_exit ?_ | refine eg_in_other rfl ?_)
                refine eg_again (p + 1) _ ⟨hle3.trans (hle10.trans hle11), hpt, hnext ?_, rfl⟩ (by omega) ⟨rfl, rfl, rfl, rfl, rfl, trivial⟩
                rw [hok1]
                simp at h4
                simp
                omega
        · have hpl : p = tps.length := by simp at h1; omega
          have hall2 : tps.all (okTp l own) = true := by
            rw [List.all_eq_true]
            intro x hx
            obtain ⟨q, hq, rfl⟩ := List.mem_iff_getElem.1 hx
            exact hokp q hq (by omega)
          repeat (first | refine cg_seq ?_ | refine cg_region ?_ | refine rg_nil ?_ | refine eg_then ?_ | refine qsp ?_ | refine qsn ?_ | refine qsa ?_ | refine qss ?_ | refine qsi ?_ | refine qsz ?_ | refine qsl ?_ | refine qsg ?_ | refine qsf ?_ | refine qsd ?_ | refine qse ?_ | refine qsx ?_ | refine qso ?_ | refine cg_cond_true rfl ?_ | refine cg_cond_false rfl ?_ | refine cg_skip ?_ | refine cg_block ?_ | refine eg_in_normal ?_ | refine cg_ret ?_ | refine eg_then_ret ?_ | refine eg_in_ret ?_ | refine cg_exit ?_ | refine eg_then_exit ?_ | refine eg_in_exit ?_ | refine eg_in_other rfl ?_)
          refine eg_return rfl rfl ?_
          simp only [evenR, hM, decide_eq_true hnd, decide_eq_true hlen, hall, hall2, Bool.true_and]
    · have q1 : ((own.length : Int) != (l.length : Int)) = true := by simp; omega
      rw [q1]
      repeat (first | refine cg_seq ?_ | refine cg_region ?_ | refine rg_nil ?_ | refine eg_then ?_ | refine qsp ?_ | refine qsn ?_ | refine qsa ?_ | refine qss ?_ | refine qsi ?_ | refine qsz ?_ | refine qsl ?_ | refine qsg ?_ | refine qsf ?_ | refine qsd ?_ | refine qse ?_ | refine qsx ?_ | refine qso ?_ | refine cg_cond_true rfl ?_ | refine cg_cond_false rfl ?_ | refine cg_skip ?_ | refine cg_block ?_ | refine eg_in_normal ?_ | refine cg_ret ?_ | refine eg_then_ret ?_ | refine eg_in_ret ?_ | refine cg_exit ?_ | refine eg_then_exit ?_ | refine eg_in_exit ?_ | refine eg_in_other rfl ?_)
      exact eg_return rfl rfl (by simp [evenR, hlen])
  · rw [decide_eq_false hnd] at hpc
    refine rs rfl rfl (loc_call_is rfl rfl rfl rfl (hpc)) ?_
    repeat (first | refine cg_seq ?_ | refine cg_region ?_ | refine rg_nil ?_ | refine eg_then ?_ | refine qsp ?_ | refine qsn ?_ | refine qsa ?_ | refine qss ?_ | refine qsi ?_ | refine qsz ?_ | refine qsl ?_ | refine qsg ?_ | refine qsf ?_ | refine qsd ?_ | refine qse ?_ | refine qsx ?_ | refine qso ?_ | refine cg_cond_true rfl ?_ | refine cg_cond_false rfl ?_ | refine cg_skip ?_ | refine cg_block ?_ | refine eg_in_normal ?_ | refine cg_ret ?_ | refine eg_then_ret ?_ | refine eg_in_ret ?_ | refine cg_exit ?_ | refine eg_then_exit ?_ | refine eg_in_exit ?_ | refine eg_in_other rfl ?_)
    exact eg_return rfl rfl (by simp [evenR, hnd])
end Go.Wm

/-
  The greatest cut, the document's. Conditions: that what is handed in reads as data.
-/
import Derived.Test.YtjonlpdnhbnmmaaR8
set_option linter.all false
namespace Go.Wm
open Go.RowKit Go.Proofs
attribute [local irreducible] RG CG EG WA Loc Det Alc CT Exit.then Exit.inBlock Code.wp bodyPost

def sumN (m : List Int) : Nat := (m.map Int.toNat).sum
theorem pw_cons {x y : Int} {a b : List Int} (h : PW (x :: a) (y :: b)) : x ≤ y ∧ PW a b := by
  have h1 := h.1
  simp at h1
  refine ⟨h.2 0 (by simp) (by simp), h1, fun i hi hi' => ?_⟩
  have := h.2 (i + 1) (by simp; omega) (by simp; omega)
  simpa using this
theorem sumN_le : ∀ {a b : List Int}, PW a b → sumN a ≤ sumN b
  | [], [], _ => Nat.le_refl _
  | [], y :: b, h => by have := h.1; simp at this
  | x :: a, [], h => by have := h.1; simp at this
  | x :: a, y :: b, h => by
    have ⟨h1, h2⟩ := pw_cons h
    have := sumN_le h2
    simp only [sumN, List.map_cons, List.sum_cons] at this ⊢
    omega
theorem sumN_lt : ∀ {a b : List Int}, PW a b → (∀ n ∈ a, 0 ≤ n) → a ≠ b → sumN a < sumN b
  | [], [], _, _, hne => absurd rfl hne
  | [], y :: b, h, _, _ => by have := h.1; simp at this
  | x :: a, [], h, _, _ => by have := h.1; simp at this
  | x :: a, y :: b, h, h0, hne => by
    have ⟨h1, h2⟩ := pw_cons h
    have hx := h0 x (by simp)
    by_cases e : x = y
    · subst e
      have := sumN_lt h2 (fun n hn => h0 n (by simp [hn])) (fun e => hne (by rw [e]))
      simp only [sumN, List.map_cons, List.sum_cons] at this ⊢
      omega
    · have := sumN_le h2
      simp only [sumN, List.map_cons, List.sum_cons] at this ⊢
      omega
def marksOf (l : List View) (m : List Int) : List Mark := (l.zip m).map fun p => ⟨p.1.tp, p.2⟩
theorem marksOf_len {l : List View} {m : List Int} (h : m.length = l.length) : (marksOf l m).length = l.length := by simp [marksOf, h]
theorem marksOf_succ {l : List View} {m : List Int} {i : Nat} (hi : i < l.length) (hm : i < m.length) : marksOf (l.take (i + 1)) (m.take (i + 1)) = marksOf (l.take i) (m.take i) ++ [⟨l[i].tp, m[i]⟩] := by
  unfold marksOf
  rw [List.take_succ_eq_append_getElem hi, List.take_succ_eq_append_getElem hm, List.zip_append (by simp; omega), List.map_append]
  rfl
/-- Where ended ones begin is no less than 0. -/
def FirstsOk (l : List View) : Prop := ∀ v ∈ l, (∀ g ∈ v.tx.done, 0 ≤ g.first) ∧ (∀ g ∈ v.tx.gone, 0 ≤ g.first) ∧ 0 ≤ stabP v.tx v.high
theorem ended_first {l : List Gone} (h : Ended l) : ∀ g ∈ l, 0 ≤ g.first ∧ g.first < g.last := fun g hg => by
  obtain ⟨i, hi, rfl⟩ := List.getElem_of_mem hg
  have := (h i hi).1
  simp only [okGone, Bool.and_eq_true, decide_eq_true_eq] at this
  exact ⟨this.2.2.2.1, this.2.2.2.2.1⟩
theorem txP_and {t : Tx} : txP t = true ↔ Opens t.openV ∧ Ended t.gone ∧ Ended t.done := by simp [txP]
theorem firsts_ok {l : List View} (h : MayV l) : FirstsOk l := fun v hv => by
  obtain ⟨i, hi, rfl⟩ := List.getElem_of_mem hv
  obtain ⟨_, _, h3, h4, _⟩ := h i hi
  obtain ⟨h5, h6, h7⟩ := txP_and.1 h3
  refine ⟨fun g hg => (ended_first h7 g hg).1, fun g hg => (ended_first h6 g hg).1, le_foldMin _ _ _ h4 fun o ho _ => ?_⟩
  obtain ⟨j, hj, rfl⟩ := List.getElem_of_mem ho
  have := (h5 j hj).1
  simp only [inO, Bool.and_eq_true, decide_eq_true_eq] at this
  exact this.2.1
theorem low_nonneg {l : List View} {m : List Int} (hl : FirstsOk l) (hm : ∀ n ∈ m, 0 ≤ n) : ∀ n ∈ lowP l m, 0 ≤ n := fun n hn => by
  unfold lowP at hn
  rw [List.mem_map] at hn
  obtain ⟨p, hp, rfl⟩ := hn
  have h1 := List.of_mem_zip hp
  unfold lowV
  exact le_foldMin _ _ _ (le_foldMin _ _ _ (hm _ h1.2) fun g hg _ => (hl _ h1.1).1 g hg) fun g hg _ => (hl _ h1.1).2.1 g hg
theorem stable_nonneg {l : List View} (hl : FirstsOk l) : ∀ n ∈ stableL l, 0 ≤ n := fun n hn => by
  unfold stableL at hn
  rw [List.mem_map] at hn
  obtain ⟨v, hv, rfl⟩ := hn
  exact (hl v hv).2.2

/-- What a cut tells. -/
def CutR (l : List View) (k' : PH) (v : Value) : Prop :=
  if MayV l then ∃ m a c, IsCut l (stableL l) m ∧ (∀ n ∈ m, 0 ≤ n) ∧ v = .tuple #[.slice a (marksOf l m).length c, .int .i64 0] ∧ Sl tMark k' a c (marksOf l m)
  else v = .tuple #[.slice none 0 0, .int .i64 1]
theorem CutR.mono {l : List View} : ∀ k k' v, Le k k' → CutR l k v → CutR l k' v := fun k k' v hle h => by
  unfold CutR at h ⊢
  split
  · rename_i hm
    rw [if_pos hm] at h
    obtain ⟨m, a, c, h1, h2, h3, h4⟩ := h
    exact ⟨m, a, c, h1, h2, h3, h4.le hle⟩
  · rename_i hm
    rw [if_neg hm] at h
    exact h
theorem view_tp {k : PH} {a : Option Addr} {c : Nat} {l : List View} (hl : Sl tView k a c l) : ∀ v ∈ l, v.ok := fun v hv => by
  obtain ⟨i, hi, rfl⟩ := List.getElem_of_mem hv
  obtain ⟨_, _, _, _, ⟨_, _, _, _, _, _, _, _, hk⟩, _⟩ := hl.el i l[i] (List.getElem?_eq_getElem hi)
  exact hk
theorem int_ok {k : PH} {a : Option Addr} {c : Nat} {l : List Int} (hl : Sl tInt k a c l) : ∀ m ∈ l, I64 m := fun m hm => by
  obtain ⟨i, hi, rfl⟩ := List.getElem_of_mem hm
  obtain ⟨_, _, _, _, ⟨_, h⟩, _⟩ := hl.el i l[i] (List.getElem?_eq_getElem hi)
  exact h

set_option maxHeartbeats 2000000 in
theorem refCut_ct {k : PH} {a : Option Addr} {c : Nat} {l : List View} (hl : Sl tView k a c l) (hb : l.length ≤ 1000000) :
    CT Try.prog 22 #[.slice a l.length c] k (CutR l) := by
  refine ct_of_body (l := [_]) Try.func22 rfl Try.ntmps22 (by simp) CutR.mono fun F hF0 hFm => ?_
  have b1 := hl.cap; have b2 := hl.max; unfold maxLen at b2
  repeat (first | refine cg_seq ?_ | refine cg_region ?_ | refine rg_nil ?_ | refine eg_then ?_ | refine qsp ?_ | refine qsn ?_ | refine qsa ?_ | refine qss ?_ | refine qsi ?_ | refine qsz ?_ | refine qsl ?_ | refine qsg ?_ | refine qsf ?_ | refine qsd ?_ | refine qsE ?_ | refine qsX ?_ | refine qse ?_ | refine qsx ?_ | refine qso ?_ | refine cg_cond_true rfl ?_ | refine cg_cond_false rfl ?_ | refine cg_skip ?_ | refine cg_block ?_ | refine eg_in_normal ?_ | refine cg_ret ?_ | refine eg_then_ret ?_ | refine eg_in_ret ?_ | refine cg_exit ?_ | refine eg_then_exit ?_ | refine eg_in_exit ?_ | refine eg_in_other rfl ?_)
  refine rs rfl rfl (loc_call_is rfl rfl rfl rfl (refMay_ct hl)) ?_
  repeat (first | refine cg_seq ?_ | refine cg_region ?_ | refine rg_nil ?_ | refine eg_then ?_ | refine qsp ?_ | refine qsn ?_ | refine qsa ?_ | refine qss ?_ | refine qsi ?_ | refine qsz ?_ | refine qsl ?_ | refine qsg ?_ | refine qsf ?_ | refine qsd ?_ | refine qsE ?_ | refine qsX ?_ | refine qse ?_ | refine qsx ?_ | refine qso ?_ | refine cg_cond_true rfl ?_ | refine cg_cond_false rfl ?_ | refine cg_skip ?_ | refine cg_block ?_ | refine eg_in_normal ?_ | refine cg_ret ?_ | refine eg_then_ret ?_ | refine eg_in_ret ?_ | refine cg_exit ?_ | refine eg_then_exit ?_ | refine eg_in_exit ?_ | refine eg_in_other rfl ?_)
  by_cases hmay : MayV l
  rotate_left
  · rw [decide_eq_false hmay]
    repeat (first | refine cg_seq ?_ | refine cg_region ?_ | refine rg_nil ?_ | refine eg_then ?_ | refine qsp ?_ | refine qsn ?_ | refine qsa ?_ | refine qss ?_ | refine qsi ?_ | refine qsz ?_ | refine qsl ?_ | refine qsg ?_ | refine qsf ?_ | refine qsd ?_ | refine qsE ?_ | refine qsX ?_ | refine qse ?_ | refine qsx ?_ | refine qso ?_ | refine cg_cond_true rfl ?_ | refine cg_cond_false rfl ?_ | refine cg_skip ?_ | refine cg_block ?_ | refine eg_in_normal ?_ | refine cg_ret ?_ | refine eg_then_ret ?_ | refine eg_in_ret ?_ | refine cg_exit ?_ | refine eg_then_exit ?_ | refine eg_in_exit ?_ | refine eg_in_other rfl ?_)
    refine eg_return2 rfl rfl rfl ?_
    rw [CutR, if_neg hmay]
  rw [decide_eq_true hmay]
  have hfo := firsts_ok hmay
  repeat (first | refine cg_seq ?_ | refine cg_region ?_ | refine rg_nil ?_ | refine eg_then ?_ | refine qsp ?_ | refine qsn ?_ | refine qsa ?_ | refine qss ?_ | refine qsi ?_ | refine qsz ?_ | refine qsl ?_ | refine qsg ?_ | refine qsf ?_ | refine qsd ?_ | refine qsE ?_ | refine qsX ?_ | refine qse ?_ | refine qsx ?_ | refine qso ?_ | refine cg_cond_true rfl ?_ | refine cg_cond_false rfl ?_ | refine cg_skip ?_ | refine cg_block ?_ | refine eg_in_normal ?_ | refine cg_ret ?_ | refine eg_then_ret ?_ | refine eg_in_ret ?_ | refine cg_exit ?_ | refine eg_then_exit ?_ | refine eg_in_exit ?_ | refine eg_in_other rfl ?_)
  refine rv rfl rfl rfl (loc_call rfl rfl rfl rfl (fun k k' v hle ⟨a, c, h1, h2⟩ => ⟨a, c, h1, h2.le hle⟩) (stable_ct hl hb)) ?_
  rintro k0 hle0 _ ⟨a9, c9, rfl, hs⟩
  repeat (first | refine cg_seq ?_ | refine cg_region ?_ | refine rg_nil ?_ | refine eg_then ?_ | refine qsp ?_ | refine qsn ?_ | refine qsa ?_ | refine qss ?_ | refine qsi ?_ | refine qsz ?_ | refine qsl ?_ | refine qsg ?_ | refine qsf ?_ | refine qsd ?_ | refine qsE ?_ | refine qsX ?_ | refine qse ?_ | refine qsx ?_ | refine qso ?_ | refine cg_cond_true rfl ?_ | refine cg_cond_false rfl ?_ | refine cg_skip ?_ | refine cg_block ?_ | refine eg_in_normal ?_ | refine cg_ret ?_ | refine eg_then_ret ?_ | refine eg_in_ret ?_ | refine cg_exit ?_ | refine eg_then_exit ?_ | refine eg_in_exit ?_ | refine eg_in_other rfl ?_)
  refine cg_loop (fun (m : List Int) e k' => ∃ am cm, Le k k' ∧ Sl tInt k' am cm m ∧ m.length = l.length ∧ (∀ n ∈ m, 0 ≤ n) ∧ PW m (stableL l) ∧ (∀ c, WholeM l c → PW c (stableL l) → PW c m) ∧ e = [(0, .is (.slice a l.length c)), (4, .is (.slice am m.length cm))])
    sumN (stableL l) ⟨a9, c9, hle0, hs, by simp [stableL], stable_nonneg hfo, PW.refl _, fun c _ h => h, rfl⟩ ⟨rfl, rfl, trivial⟩ ?_
  rintro m e k1 ⟨am, cm, hle, hm, hlen, h0, hpw, htop, rfl⟩
  repeat (first | refine cg_seq ?_ | refine cg_region ?_ | refine rg_nil ?_ | refine eg_then ?_ | refine qsp ?_ | refine qsn ?_ | refine qsa ?_ | refine qss ?_ | refine qsi ?_ | refine qsz ?_ | refine qsl ?_ | refine qsg ?_ | refine qsf ?_ | refine qsd ?_ | refine qsE ?_ | refine qsX ?_ | refine qse ?_ | refine qsx ?_ | refine qso ?_ | refine cg_cond_true rfl ?_ | refine cg_cond_false rfl ?_ | refine cg_skip ?_ | refine cg_block ?_ | refine eg_in_normal ?_ | refine cg_ret ?_ | refine eg_then_ret ?_ | refine eg_in_ret ?_ | refine cg_exit ?_ | refine eg_then_exit ?_ | refine eg_in_exit ?_ | refine eg_in_other rfl ?_)
  refine rv rfl rfl rfl (loc_call rfl rfl rfl rfl (fun k k' v hle ⟨a, c, h1, h2⟩ => ⟨a, c, h1, h2.le hle⟩) (lower_ct (hl.le hle) hm hlen hb)) ?_
  rintro k2 hle2 _ ⟨an, cn, rfl, hn⟩
  have hm2 := hm.le hle2
  repeat (first | refine cg_seq ?_ | refine cg_region ?_ | refine rg_nil ?_ | refine eg_then ?_ | refine qsp ?_ | refine qsn ?_ | refine qsa ?_ | refine qss ?_ | refine qsi ?_ | refine qsz ?_ | refine qsl ?_ | refine qsg ?_ | refine qsf ?_ | refine qsd ?_ | refine qsE ?_ | refine qsX ?_ | refine qse ?_ | refine qsx ?_ | refine qso ?_ | refine cg_cond_true rfl ?_ | refine cg_cond_false rfl ?_ | refine cg_skip ?_ | refine cg_block ?_ | refine eg_in_normal ?_ | refine cg_ret ?_ | refine eg_then_ret ?_ | refine eg_in_ret ?_ | refine cg_exit ?_ | refine eg_then_exit ?_ | refine eg_in_exit ?_ | refine eg_in_other rfl ?_)
  refine rs rfl rfl (loc_call_is rfl rfl rfl rfl (sameInt_ct hn hm2 (by rw [lowP_len hlen, hlen]))) ?_
  repeat (first | refine cg_seq ?_ | refine cg_region ?_ | refine rg_nil ?_ | refine eg_then ?_ | refine qsp ?_ | refine qsn ?_ | refine qsa ?_ | refine qss ?_ | refine qsi ?_ | refine qsz ?_ | refine qsl ?_ | refine qsg ?_ | refine qsf ?_ | refine qsd ?_ | refine qsE ?_ | refine qsX ?_ | refine qse ?_ | refine qsx ?_ | refine qso ?_ | refine cg_cond_true rfl ?_ | refine cg_cond_false rfl ?_ | refine cg_skip ?_ | refine cg_block ?_ | refine eg_in_normal ?_ | refine cg_ret ?_ | refine eg_then_ret ?_ | refine eg_in_ret ?_ | refine cg_exit ?_ | refine eg_then_exit ?_ | refine eg_in_exit ?_ | refine eg_in_other rfl ?_)
  have hlow := low_le hlen
  by_cases hsame : lowP l m = m
  rotate_left
  · rw [decide_eq_false hsame]
    repeat (first | refine cg_seq ?_ | refine cg_region ?_ | refine rg_nil ?_ | refine eg_then ?_ | refine qsp ?_ | refine qsn ?_ | refine qsa ?_ | refine qss ?_ | refine qsi ?_ | refine qsz ?_ | refine qsl ?_ | refine qsg ?_ | refine qsf ?_ | refine qsd ?_ | refine qsE ?_ | refine qsX ?_ | refine qse ?_ | refine qsx ?_ | refine qso ?_ | refine cg_cond_true rfl ?_ | refine cg_cond_false rfl ?_ | refine cg_skip ?_ | refine cg_block ?_ | refine eg_in_normal ?_ | refine cg_ret ?_ | refine eg_then_ret ?_ | refine eg_in_ret ?_ | refine cg_exit ?_ | refine eg_then_exit ?_ | refine eg_in_exit ?_ | refine eg_in_other rfl ?_)
    refine eg_again (lowP l m) _ ⟨an, cn, hle.trans hle2, hn, lowP_len hlen, low_nonneg hfo h0, hlow.trans hpw, fun c hw hc => low_mono hlen hw (htop c hw hc), rfl⟩ (sumN_lt hlow (low_nonneg hfo h0) hsame) ⟨rfl, rfl, trivial⟩
  rw [decide_eq_true hsame]
  have hcut : IsCut l (stableL l) m := ⟨hlen, (whole_iff hlen).1 hsame, hpw, htop⟩
  repeat (first | refine cg_seq ?_ | refine cg_region ?_ | refine rg_nil ?_ | refine eg_then ?_ | refine qsp ?_ | refine qsn ?_ | refine qsa ?_ | refine qss ?_ | refine qsi ?_ | refine qsz ?_ | refine qsl ?_ | refine qsg ?_ | refine qsf ?_ | refine qsd ?_ | refine qsE ?_ | refine qsX ?_ | refine qse ?_ | refine qsx ?_ | refine qso ?_ | refine cg_cond_true rfl ?_ | refine cg_cond_false rfl ?_ | refine cg_skip ?_ | refine cg_block ?_ | refine eg_in_normal ?_ | refine cg_ret ?_ | refine eg_then_ret ?_ | refine eg_in_ret ?_ | refine cg_exit ?_ | refine eg_then_exit ?_ | refine eg_in_exit ?_ | refine eg_in_other rfl ?_)
  refine cg_loop (fun (i : Nat) e k' => ∃ v, Le k2 k' ∧ Row F.w0.heap.size k' 39 4 v i ((marksOf (l.take i) (m.take i)).flatMap Mark.vs) ∧ Apart k2 v ∧ i ≤ l.length ∧ e = [(0, .is (.slice a l.length c)), (4, .is (.slice am m.length cm)), (6, .is v), (7, .is (.int .i64 (i : Int)))])
    (fun i => l.length - i) 0 ⟨.slice none 0 0, Le.refl _, row_nil _ _ _ _, apart_nil _ _ _, Nat.zero_le _, rfl⟩ ⟨rfl, rfl, rfl, rfl, trivial⟩ ?_
  rintro i e k3 ⟨v, hle3, hrow, hap, hi, rfl⟩
  repeat (first | refine cg_seq ?_ | refine cg_region ?_ | refine rg_nil ?_ | refine eg_then ?_ | refine qsp ?_ | refine qsn ?_ | refine qsa ?_ | refine qss ?_ | refine qsi ?_ | refine qsz ?_ | refine qsl ?_ | refine qsg ?_ | refine qsf ?_ | refine qsd ?_ | refine qsE ?_ | refine qsX ?_ | refine qse ?_ | refine qsx ?_ | refine qso ?_ | refine cg_cond_true rfl ?_ | refine cg_cond_false rfl ?_ | refine cg_skip ?_ | refine cg_block ?_ | refine eg_in_normal ?_ | refine cg_ret ?_ | refine eg_then_ret ?_ | refine eg_in_ret ?_ | refine cg_exit ?_ | refine eg_then_exit ?_ | refine eg_in_exit ?_ | refine eg_in_other rfl ?_)
  refine cg_cond rfl (fun h => ?_) (fun h => ?_)
  · have hlt : i < l.length := by simpa using h
    have hlm : i < m.length := by omega
    obtain ⟨bx, ox, cx, rfl, ⟨a0, c0, a1, c1, a2, c2, rfl, _, hok⟩, hcx⟩ := hl.el i l[i] (List.getElem?_eq_getElem hlt)
    obtain ⟨bm, om, cm', rfl, ⟨rfl, hmok⟩, hcm⟩ := hm2.el i m[i] (List.getElem?_eq_getElem hlm)
    have hsn := marksOf_succ hlt hlm
    have hd := le_delV hle3 hap
    have hcx2 := hcx.le ((hle.trans hle2).trans hd)
    have hcm2 := hcm.le hd
    obtain ⟨r0, r1, r2⟩ := View.parts hcx2
    repeat (first | refine cg_seq ?_ | refine cg_region ?_ | refine rg_nil ?_ | refine eg_then ?_ | refine qsp ?_ | refine qsn ?_ | refine qsa ?_ | refine qss ?_ | refine qsi ?_ | refine qsz ?_ | refine qsl ?_ | refine qsg ?_ | refine qsf ?_ | refine qsd ?_ | refine qsE ?_ | refine qsX ?_ | refine qse ?_ | refine qsx ?_ | refine qso ?_ | refine cg_cond_true rfl ?_ | refine cg_cond_false rfl ?_ | refine cg_skip ?_ | refine cg_block ?_ | refine eg_in_normal ?_ | refine cg_ret ?_ | refine eg_then_ret ?_ | refine eg_in_ret ?_ | refine cg_exit ?_ | refine eg_then_exit ?_ | refine eg_in_exit ?_ | refine eg_in_other rfl ?_)
    refine cg_app v hrow rfl (by kernel_rfl) (by kernel_rfl) rfl rfl (m' := i + 1) (xs' := (marksOf (l.take i) (m.take i)).flatMap Mark.vs ++ (⟨l[i].tp, m[i]⟩ : Mark).vs) ?_
    repeat (first | refine qvp ?_ | refine qvn ?_ | refine qva ?_ | refine qvs ?_ | refine qvi ?_ | refine qvz ?_ | refine qvl ?_ | refine qvg ?_ | refine qvf ?_ | refine qvd ?_ | refine qvE ?_ | refine qvX ?_ | refine qve ?_ | refine qvx ?_ | refine qvo ?_)
    refine we_s rfl (loc_det rfl (d_lit rfl rfl rfl)) ?_
    refine we_v rfl (loc_alloc rfl (a_slice rfl rfl rfl rfl (by kernel_rfl) rfl)) ?_
    refine we_app rfl rfl rfl rfl rfl (fun k1 u _ ⟨b, hu, hkb, _⟩ => ⟨b, 0, 1, hu, cells_at hkb rfl⟩) rfl (by simp [Mark.vs, Tp.vs, Value.oneCell']) rfl rfl (by unfold maxLen; omega) (by omega) ?_
    repeat (first | refine qvp ?_ | refine qvn ?_ | refine qva ?_ | refine qvs ?_ | refine qvi ?_ | refine qvz ?_ | refine qvl ?_ | refine qvg ?_ | refine qvf ?_ | refine qvd ?_ | refine qvE ?_ | refine qvX ?_ | refine qve ?_ | refine qvx ?_ | refine qvo ?_)
    refine we_nil ⟨38, _, [(0, .is (.slice (some ⟨bx, ox, none⟩) l.length c)), (4, .is (.slice (some ⟨bm, om, none⟩) m.length cm)), (7, .is (.int .i64 (i : Int)))], rfl, rfl, rfl, ⟨rfl, rfl, rfl, trivial⟩, fun v' k9 hrow9 ht9 => ?_⟩
    obtain ⟨hle9, hap9⟩ := ht9 k2 hle3 hap
    repeat (first | refine cg_seq ?_ | refine cg_region ?_ | refine rg_nil ?_ | refine eg_then ?_ | refine qsp ?_ | refine qsn ?_ | refine qsa ?_ | refine qss ?_ | refine qsi ?_ | refine qsz ?_ | refine qsl ?_ | refine qsg ?_ | refine qsf ?_ | refine qsd ?_ | refine qsE ?_ | refine qsX ?_ | refine qse ?_ | refine qsx ?_ | refine qso ?_ | refine cg_cond_true rfl ?_ | refine cg_cond_false rfl ?_ | refine cg_skip ?_ | refine cg_block ?_ | refine eg_in_normal ?_ | refine cg_ret ?_ | refine eg_then_ret ?_ | refine eg_in_ret ?_ | refine cg_exit ?_ | refine eg_then_exit ?_ | refine eg_in_exit ?_ | refine eg_in_other rfl ?_)
    refine eg_again (i + 1) _ ⟨v', hle9, ?_, hap9, hlt, rfl⟩ (by omega) ⟨rfl, rfl, rfl, rfl, trivial⟩
    rw [hsn, List.flatMap_append]
    simpa using hrow9
  · repeat (first | refine cg_seq ?_ | refine cg_region ?_ | refine rg_nil ?_ | refine eg_then ?_ | refine qsp ?_ | refine qsn ?_ | refine qsa ?_ | refine qss ?_ | refine qsi ?_ | refine qsz ?_ | refine qsl ?_ | refine qsg ?_ | refine qsf ?_ | refine qsd ?_ | refine qsE ?_ | refine qsX ?_ | refine qse ?_ | refine qsx ?_ | refine qso ?_ | refine cg_cond_true rfl ?_ | refine cg_cond_false rfl ?_ | refine cg_skip ?_ | refine cg_block ?_ | refine eg_in_normal ?_ | refine cg_ret ?_ | refine eg_then_ret ?_ | refine eg_in_ret ?_ | refine cg_exit ?_ | refine eg_then_exit ?_ | refine eg_in_exit ?_ | refine eg_in_other rfl ?_)
    have hil : i = l.length := by simp at h; omega
    rw [hil, List.take_length, ← hlen, List.take_length] at hrow
    have hrow : Row F.w0.heap.size k3 39 4 v (marksOf l m).length ((marksOf l m).flatMap Mark.vs) := by rw [marksOf_len hlen, ← hlen]; exact hrow
    obtain ⟨ai, ci, rfl, hsl⟩ := Row.sl (T := tMark) hrow (fun x hx => ⟨rfl, by
      unfold marksOf at hx
      rw [List.mem_map] at hx
      obtain ⟨p, hp, rfl⟩ := hx
      have h1 := List.of_mem_zip hp
      exact ⟨(view_tp hl _ h1.1).1, int_ok hm _ h1.2⟩⟩)
    refine eg_return2 rfl rfl rfl ?_
    rw [CutR, if_pos hmay]
    exact ⟨m, ai, ci, hcut, h0, rfl, hsl⟩
end Go.Wm

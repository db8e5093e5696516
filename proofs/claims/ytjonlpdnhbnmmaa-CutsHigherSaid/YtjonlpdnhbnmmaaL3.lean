/-
  The walk of the law CutsHigher. Conditions: that what is handed in reads as data.
-/
import Derived.Test.YtjonlpdnhbnmmaaD4
import Derived.Test.YtjonlpdnhbnmmaaDiv
set_option linter.all false
namespace Go.Wm
open Go.RowKit Go.Proofs
attribute [local irreducible] RG CG EG WA Loc Det Alc CT Exit.then Exit.inBlock Code.wp bodyPost

theorem wrapi' {n : Int} (h : -9223372036854775808 ≤ n ∧ n ≤ 9223372036854775807) : IntKind.i64.wrap n = n := by
  rw [IntKind.wrap_i64]
  omega
theorem setHigh_set {l : List View} {i : Nat} (h : i < l.length) (n : Int) : setHigh l i n = l.set i { l[i] with high := n } := by
  apply List.ext_getElem (by simp [setHigh])
  intro j h1 h2
  rw [List.length_set] at h2
  rw [setHigh_at h2, List.getElem_set]
  split
  · rename_i e; subst e; rfl
  · rfl
/-- Views of the call's own: a row. -/
def VRow (N : Nat) (kb k : PH) (g n cap : Nat) (x : List View) : Prop := ∃ css, Pieces tView kb css x ∧ Row N k 45 7 (.slice (some ⟨g, 0, none⟩) n cap) n css.flatten ∧ x.length = n
theorem VRow.sl {N : Nat} {kb k : PH} {g n cap : Nat} {x : List View} (h : VRow N kb k g n cap x) (hle : Le kb k) : Sl tView k (some ⟨g, 0, none⟩) cap x := by
  obtain ⟨css, hp, hr, hn⟩ := h
  rw [← hn] at hr
  obtain ⟨a, c, e, hs⟩ := Row.sls hr (hp.le hle)
  cases e
  exact hs
theorem VRow.le {N : Nat} {kb k k' : PH} {g n cap : Nat} {x : List View} (h : VRow N kb k g n cap x) (hle : Le k k') : VRow N kb k' g n cap x := by
  obtain ⟨css, hp, hr, hn⟩ := h
  exact ⟨css, hp, hr.le hle, hn⟩
theorem VRow.at {N : Nat} {kb k : PH} {g n cap i : Nat} {x : List View} (h : VRow N kb k g n cap x) (hi : i < x.length) : ∃ cur, N ≤ g ∧ k g = some (.cells cur 45 (0, 0)) ∧ i * 7 + 6 < cur.size ∧ Cells k g (0 + i * 7 + 6) [.int .i64 x[i].high] ∧ n = x.length ∧
    ∀ k' m, Turn1 k k' g → I64 m → k' g = some (.cells (cur.setIfInBounds (0 + i * 7 + 6) (.int .i64 m)) 45 (0, 0)) → VRow N kb k' g n cap (setHigh x i m) := by
  obtain ⟨css, hp, hr, hn⟩ := h
  have hic : i < css.length := by rw [hp.1]; exact hi
  obtain ⟨a0, c0, a1, c1, a2, c2, e, hsl, hok⟩ := hp.2 i css[i] x[i] (List.getElem?_eq_getElem hic) (List.getElem?_eq_getElem hi)
  obtain ⟨g', cap', cur, e1, hN, hk, hlt, hcc, hset⟩ := Row.cell hr hp.len (List.getElem?_eq_getElem hic) (j := 6) (by decide)
  cases e1
  rw [e] at hcc
  obtain ⟨_, _, r2⟩ := View.parts hcc
  refine ⟨cur, hN, hk, hlt, r2, hn.symm, fun k' m ht hm hk' => ⟨css.set i (css[i].set 6 (.int .i64 m)), ?_, ?_, by rw [setHigh_len]; exact hn⟩⟩
  · rw [setHigh_set hi]
    refine hp.set i ?_
    rw [e]
    exact ⟨a0, c0, a1, c1, a2, c2, rfl, hsl, hok.1, hok.2.1, hm⟩
  · exact hset k' (.int .i64 m) ht (by rw [hk']; congr 2; congr 1; omega)

set_option maxHeartbeats 2000000 in
theorem cutsHigher_walk {k : PH} {a : Option Addr} {c : Nat} {l : List View} {n1 n2 : Int} {B1 : Prop} (hl : Sl tView k a c l) (_ : B1) (hI1 : I64 n1) (hI2 : I64 n2) :
    CT Try.prog 7 #[.slice a l.length c, .int .i64 n1, .int .i64 n2] k (fun _ v => v = .bool true) := by
  refine ct_of_body (l := [_, _, _]) Try.func7 rfl Try.ntmps7 (by simp) (fun _ _ _ _ h => h) fun F hF0 hFm => ?_
  have b1 := hl.cap; have b2 := hl.max; unfold maxLen at b2
  repeat (first | refine cg_seq ?_ | refine cg_region ?_ | refine rg_nil ?_ | refine eg_then ?_ | refine qsp ?_ | refine qsn ?_ | refine qsa ?_ | refine qss ?_ | refine qsi ?_ | refine qsz ?_ | refine qsl ?_ | refine qsg ?_ | refine qsf ?_ | refine qsd ?_ | refine qsE ?_ | refine qsX ?_ | refine qse ?_ | refine qsx ?_ | refine qso ?_ | refine cg_cond_true rfl ?_ | refine cg_cond_false rfl ?_ | refine cg_skip ?_ | refine cg_block ?_ | refine eg_in_normal ?_ | refine cg_ret ?_ | refine eg_then_ret ?_ | refine eg_in_ret ?_ | refine cg_exit ?_ | refine eg_then_exit ?_ | refine eg_in_exit ?_ | refine eg_in_other rfl ?_)
  refine rs rfl rfl (loc_call_is rfl rfl rfl rfl (live_ct)) ?_
  repeat (first | refine cg_seq ?_ | refine cg_region ?_ | refine rg_nil ?_ | refine eg_then ?_ | refine qsp ?_ | refine qsn ?_ | refine qsa ?_ | refine qss ?_ | refine qsi ?_ | refine qsz ?_ | refine qsl ?_ | refine qsg ?_ | refine qsf ?_ | refine qsd ?_ | refine qsE ?_ | refine qsX ?_ | refine qse ?_ | refine qsx ?_ | refine qso ?_ | refine cg_cond_true rfl ?_ | refine cg_cond_false rfl ?_ | refine cg_skip ?_ | refine cg_block ?_ | refine eg_in_normal ?_ | refine cg_ret ?_ | refine eg_then_ret ?_ | refine eg_in_ret ?_ | refine cg_exit ?_ | refine eg_then_exit ?_ | refine eg_in_exit ?_ | refine eg_in_other rfl ?_)
  refine rs rfl rfl (loc_call_is rfl rfl rfl rfl (fewV_ct hl)) ?_
  repeat (first | refine cg_seq ?_ | refine cg_region ?_ | refine rg_nil ?_ | refine eg_then ?_ | refine qsp ?_ | refine qsn ?_ | refine qsa ?_ | refine qss ?_ | refine qsi ?_ | refine qsz ?_ | refine qsl ?_ | refine qsg ?_ | refine qsf ?_ | refine qsd ?_ | refine qsE ?_ | refine qsX ?_ | refine qse ?_ | refine qsx ?_ | refine qso ?_ | refine cg_cond_true rfl ?_ | refine cg_cond_false rfl ?_ | refine cg_skip ?_ | refine cg_block ?_ | refine eg_in_normal ?_ | refine cg_ret ?_ | refine eg_then_ret ?_ | refine eg_in_ret ?_ | refine cg_exit ?_ | refine eg_then_exit ?_ | refine eg_in_exit ?_ | refine eg_in_other rfl ?_)
  cases hf : fewV l
  · repeat (first | refine cg_seq ?_ | refine cg_region ?_ | refine rg_nil ?_ | refine eg_then ?_ | refine qsp ?_ | refine qsn ?_ | refine qsa ?_ | refine qss ?_ | refine qsi ?_ | refine qsz ?_ | refine qsl ?_ | refine qsg ?_ | refine qsf ?_ | refine qsd ?_ | refine qsE ?_ | refine qsX ?_ | refine qse ?_ | refine qsx ?_ | refine qso ?_ | refine cg_cond_true rfl ?_ | refine cg_cond_false rfl ?_ | refine cg_skip ?_ | refine cg_block ?_ | refine eg_in_normal ?_ | refine cg_ret ?_ | refine eg_then_ret ?_ | refine eg_in_ret ?_ | refine cg_exit ?_ | refine eg_then_exit ?_ | refine eg_in_exit ?_ | refine eg_in_other rfl ?_)
    exact eg_return rfl rfl rfl
  obtain ⟨h8, hsm, _⟩ := few_small hf
  repeat (first | refine cg_seq ?_ | refine cg_region ?_ | refine rg_nil ?_ | refine eg_then ?_ | refine qsp ?_ | refine qsn ?_ | refine qsa ?_ | refine qss ?_ | refine qsi ?_ | refine qsz ?_ | refine qsl ?_ | refine qsg ?_ | refine qsf ?_ | refine qsd ?_ | refine qsE ?_ | refine qsX ?_ | refine qse ?_ | refine qsx ?_ | refine qso ?_ | refine cg_cond_true rfl ?_ | refine cg_cond_false rfl ?_ | refine cg_skip ?_ | refine cg_block ?_ | refine eg_in_normal ?_ | refine cg_ret ?_ | refine eg_then_ret ?_ | refine eg_in_ret ?_ | refine cg_exit ?_ | refine eg_then_exit ?_ | refine eg_in_exit ?_ | refine eg_in_other rfl ?_)
  cases hn0 : ((l.length : Int) == 0)
  rotate_left
  · repeat (first | refine cg_seq ?_ | refine cg_region ?_ | refine rg_nil ?_ | refine eg_then ?_ | refine qsp ?_ | refine qsn ?_ | refine qsa ?_ | refine qss ?_ | refine qsi ?_ | refine qsz ?_ | refine qsl ?_ | refine qsg ?_ | refine qsf ?_ | refine qsd ?_ | refine qsE ?_ | refine qsX ?_ | refine qse ?_ | refine qsx ?_ | refine qso ?_ | refine cg_cond_true rfl ?_ | refine cg_cond_false rfl ?_ | refine cg_skip ?_ | refine cg_block ?_ | refine eg_in_normal ?_ | refine cg_ret ?_ | refine eg_then_ret ?_ | refine eg_in_ret ?_ | refine cg_exit ?_ | refine eg_then_exit ?_ | refine eg_in_exit ?_ | refine eg_in_other rfl ?_)
    exact eg_return rfl rfl rfl
  have hn0' : l.length ≠ 0 := by
    intro e; rw [e] at hn0; cases hn0
  repeat (first | refine cg_seq ?_ | refine cg_region ?_ | refine rg_nil ?_ | refine eg_then ?_ | refine qsp ?_ | refine qsn ?_ | refine qsa ?_ | refine qss ?_ | refine qsi ?_ | refine qsz ?_ | refine qsl ?_ | refine qsg ?_ | refine qsf ?_ | refine qsd ?_ | refine qsE ?_ | refine qsX ?_ | refine qse ?_ | refine qsx ?_ | refine qso ?_ | refine cg_cond_true rfl ?_ | refine cg_cond_false rfl ?_ | refine cg_skip ?_ | refine cg_block ?_ | refine eg_in_normal ?_ | refine cg_ret ?_ | refine eg_then_ret ?_ | refine eg_in_ret ?_ | refine cg_exit ?_ | refine eg_then_exit ?_ | refine eg_in_exit ?_ | refine eg_in_other rfl ?_)
  cases hn1 : decide (n2 < 0)
  rotate_left
  · repeat (first | refine cg_seq ?_ | refine cg_region ?_ | refine rg_nil ?_ | refine eg_then ?_ | refine qsp ?_ | refine qsn ?_ | refine qsa ?_ | refine qss ?_ | refine qsi ?_ | refine qsz ?_ | refine qsl ?_ | refine qsg ?_ | refine qsf ?_ | refine qsd ?_ | refine qsE ?_ | refine qsX ?_ | refine qse ?_ | refine qsx ?_ | refine qso ?_ | refine cg_cond_true rfl ?_ | refine cg_cond_false rfl ?_ | refine cg_skip ?_ | refine cg_block ?_ | refine eg_in_normal ?_ | refine cg_ret ?_ | refine eg_then_ret ?_ | refine eg_in_ret ?_ | refine cg_exit ?_ | refine eg_then_exit ?_ | refine eg_in_exit ?_ | refine eg_in_other rfl ?_)
    exact eg_return rfl rfl rfl
  have hn1' : 0 ≤ n2 := by simp at hn1; omega
  repeat (first | refine cg_seq ?_ | refine cg_region ?_ | refine rg_nil ?_ | refine eg_then ?_ | refine qsp ?_ | refine qsn ?_ | refine qsa ?_ | refine qss ?_ | refine qsi ?_ | refine qsz ?_ | refine qsl ?_ | refine qsg ?_ | refine qsf ?_ | refine qsd ?_ | refine qsE ?_ | refine qsX ?_ | refine qse ?_ | refine qsx ?_ | refine qso ?_ | refine cg_cond_true rfl ?_ | refine cg_cond_false rfl ?_ | refine cg_skip ?_ | refine cg_block ?_ | refine eg_in_normal ?_ | refine cg_ret ?_ | refine eg_then_ret ?_ | refine eg_in_ret ?_ | refine cg_exit ?_ | refine eg_then_exit ?_ | refine eg_in_exit ?_ | refine eg_in_other rfl ?_)
  refine cg_cond rfl (fun hn2 => ?_) (fun hn2 => ?_)
  · repeat (first | refine cg_seq ?_ | refine cg_region ?_ | refine rg_nil ?_ | refine eg_then ?_ | refine qsp ?_ | refine qsn ?_ | refine qsa ?_ | refine qss ?_ | refine qsi ?_ | refine qsz ?_ | refine qsl ?_ | refine qsg ?_ | refine qsf ?_ | refine qsd ?_ | refine qsE ?_ | refine qsX ?_ | refine qse ?_ | refine qsx ?_ | refine qso ?_ | refine cg_cond_true rfl ?_ | refine cg_cond_false rfl ?_ | refine cg_skip ?_ | refine cg_block ?_ | refine eg_in_normal ?_ | refine cg_ret ?_ | refine eg_then_ret ?_ | refine eg_in_ret ?_ | refine cg_exit ?_ | refine eg_then_exit ?_ | refine eg_in_exit ?_ | refine eg_in_other rfl ?_)
    exact eg_return rfl rfl rfl
  have hn2' : n2 ≤ 1099511627776 := by simp at hn2; omega
  repeat (first | refine cg_seq ?_ | refine cg_region ?_ | refine rg_nil ?_ | refine eg_then ?_ | refine qsp ?_ | refine qsn ?_ | refine qsa ?_ | refine qss ?_ | refine qsi ?_ | refine qsz ?_ | refine qsl ?_ | refine qsg ?_ | refine qsf ?_ | refine qsd ?_ | refine qsE ?_ | refine qsX ?_ | refine qse ?_ | refine qsx ?_ | refine qso ?_ | refine cg_cond_true rfl ?_ | refine cg_cond_false rfl ?_ | refine cg_skip ?_ | refine cg_block ?_ | refine eg_in_normal ?_ | refine cg_ret ?_ | refine eg_then_ret ?_ | refine eg_in_ret ?_ | refine cg_exit ?_ | refine eg_then_exit ?_ | refine eg_in_exit ?_ | refine eg_in_other rfl ?_)
  refine rv rfl rfl rfl (loc_call rfl rfl rfl rfl CutR.mono (cut_ct hl (by omega) hsm)) ?_
  rintro k1 hle1 _ hr1
  obtain ⟨ms, e, a1, c1, rfl, hs1, hi1⟩ := hr1.is
  have hl1 := hl.le hle1
  repeat (first | refine cg_seq ?_ | refine cg_region ?_ | refine rg_nil ?_ | refine eg_then ?_ | refine qsp ?_ | refine qsn ?_ | refine qsa ?_ | refine qss ?_ | refine qsi ?_ | refine qsz ?_ | refine qsl ?_ | refine qsg ?_ | refine qsf ?_ | refine qsd ?_ | refine qsE ?_ | refine qsX ?_ | refine qse ?_ | refine qsx ?_ | refine qso ?_ | refine cg_cond_true rfl ?_ | refine cg_cond_false rfl ?_ | refine cg_skip ?_ | refine cg_block ?_ | refine eg_in_normal ?_ | refine cg_ret ?_ | refine eg_then_ret ?_ | refine eg_in_ret ?_ | refine cg_exit ?_ | refine eg_then_exit ?_ | refine eg_in_exit ?_ | refine eg_in_other rfl ?_)
  refine rs rfl rfl (loc_det rfl (d_and16 rfl rfl rfl)) ?_
  repeat (first | refine cg_seq ?_ | refine cg_region ?_ | refine rg_nil ?_ | refine eg_then ?_ | refine qsp ?_ | refine qsn ?_ | refine qsa ?_ | refine qss ?_ | refine qsi ?_ | refine qsz ?_ | refine qsl ?_ | refine qsg ?_ | refine qsf ?_ | refine qsd ?_ | refine qsE ?_ | refine qsX ?_ | refine qse ?_ | refine qsx ?_ | refine qso ?_ | refine cg_cond_true rfl ?_ | refine cg_cond_false rfl ?_ | refine cg_skip ?_ | refine cg_block ?_ | refine eg_in_normal ?_ | refine cg_ret ?_ | refine eg_then_ret ?_ | refine eg_in_ret ?_ | refine cg_exit ?_ | refine eg_then_exit ?_ | refine eg_in_exit ?_ | refine eg_in_other rfl ?_)
  refine rs rfl rfl (loc_det rfl (d_rem rfl rfl rfl (by omega))) ?_
  have hat : low16 n1 % l.length < l.length := Nat.mod_lt _ (by omega)
  generalize low16 n1 % l.length = at' at hat ⊢
  repeat (first | refine cg_seq ?_ | refine cg_region ?_ | refine rg_nil ?_ | refine eg_then ?_ | refine qsp ?_ | refine qsn ?_ | refine qsa ?_ | refine qss ?_ | refine qsi ?_ | refine qsz ?_ | refine qsl ?_ | refine qsg ?_ | refine qsf ?_ | refine qsd ?_ | refine qsE ?_ | refine qsX ?_ | refine qse ?_ | refine qsx ?_ | refine qso ?_ | refine cg_cond_true rfl ?_ | refine cg_cond_false rfl ?_ | refine cg_skip ?_ | refine cg_block ?_ | refine eg_in_normal ?_ | refine cg_ret ?_ | refine eg_then_ret ?_ | refine eg_in_ret ?_ | refine cg_exit ?_ | refine eg_then_exit ?_ | refine eg_in_exit ?_ | refine eg_in_other rfl ?_)
  refine rb rfl rfl rfl rfl (a_empty rfl) ?_; intro be ke hbe hNe hlee hke
  repeat (first | refine cg_seq ?_ | refine cg_region ?_ | refine rg_nil ?_ | refine eg_then ?_ | refine qsp ?_ | refine qsn ?_ | refine qsa ?_ | refine qss ?_ | refine qsi ?_ | refine qsz ?_ | refine qsl ?_ | refine qsg ?_ | refine qsf ?_ | refine qsd ?_ | refine qsE ?_ | refine qsX ?_ | refine qse ?_ | refine qsx ?_ | refine qso ?_ | refine cg_cond_true rfl ?_ | refine cg_cond_false rfl ?_ | refine cg_skip ?_ | refine cg_block ?_ | refine eg_in_normal ?_ | refine cg_ret ?_ | refine eg_then_ret ?_ | refine eg_in_ret ?_ | refine cg_exit ?_ | refine eg_then_exit ?_ | refine eg_in_exit ?_ | refine eg_in_other rfl ?_)
  refine raps2 rfl rfl rfl rfl rfl rfl rfl rfl (row_empty hNe hke) hl1 hlee (fun k cs x h => View.one k cs x h) rfl rfl (by unfold maxLen; omega) (by omega) ?_
  intro v2 k2 css hp2 hrow2 ht2
  obtain ⟨hle2, hap2⟩ := ht2 k1 hlee (fun g hg => by cases hg; exact hbe)
  rw [Nat.zero_add, List.nil_append] at hrow2
  obtain ⟨g, cap, rfl⟩ : ∃ g cap, v2 = .slice (some ⟨g, 0, none⟩) l.length cap := by
    rcases hrow2.own with ⟨_, h0, _⟩ | ⟨g, cap, cur, h, _⟩
    · omega
    · exact ⟨g, cap, h⟩
  have hkg : k1 g = none := hap2 g rfl
  have hv2 : VRow F.w0.heap.size k1 k2 g l.length cap l := ⟨css, hp2, hrow2, rfl⟩
  obtain ⟨cur, hNg, hgk, hsz, hcg, _, hset⟩ := hv2.at hat
  repeat (first | refine cg_seq ?_ | refine cg_region ?_ | refine rg_nil ?_ | refine eg_then ?_ | refine qsp ?_ | refine qsn ?_ | refine qsa ?_ | refine qss ?_ | refine qsi ?_ | refine qsz ?_ | refine qsl ?_ | refine qsg ?_ | refine qsf ?_ | refine qsd ?_ | refine qsE ?_ | refine qsX ?_ | refine qse ?_ | refine qsx ?_ | refine qso ?_ | refine cg_cond_true rfl ?_ | refine cg_cond_false rfl ?_ | refine cg_skip ?_ | refine cg_block ?_ | refine eg_in_normal ?_ | refine cg_ret ?_ | refine eg_then_ret ?_ | refine eg_in_ret ?_ | refine cg_exit ?_ | refine eg_then_exit ?_ | refine eg_in_exit ?_ | refine eg_in_other rfl ?_)
  refine rs rfl rfl (loc_det rfl (d_addw rfl rfl rfl)) ?_
  refine rs rfl rfl (loc_det rfl (d_min rfl rfl rfl)) ?_
  repeat (first | refine cg_seq ?_ | refine cg_region ?_ | refine rg_nil ?_ | refine eg_then ?_ | refine qsp ?_ | refine qsn ?_ | refine qsa ?_ | refine qss ?_ | refine qsi ?_ | refine qsz ?_ | refine qsl ?_ | refine qsg ?_ | refine qsf ?_ | refine qsd ?_ | refine qsE ?_ | refine qsX ?_ | refine qse ?_ | refine qsx ?_ | refine qso ?_ | refine cg_cond_true rfl ?_ | refine cg_cond_false rfl ?_ | refine cg_skip ?_ | refine cg_block ?_ | refine eg_in_normal ?_ | refine cg_ret ?_ | refine eg_then_ret ?_ | refine eg_in_ret ?_ | refine cg_exit ?_ | refine eg_then_exit ?_ | refine eg_in_exit ?_ | refine eg_in_other rfl ?_)
  obtain ⟨hv, hhv⟩ : ∃ hv, hv = (if 1099511627776 < IntKind.i64.wrap (l[at'].high + n2) then 1099511627776 else IntKind.i64.wrap (l[at'].high + n2)) := ⟨_, rfl⟩
  rw [← hhv]
  refine rw0 rfl rfl rfl rfl rfl rfl rfl rfl hgk ?_ (.inl hNg) ?_
  · simp; omega
  intro k3 ht3 hk3
  have hvI : I64 hv := by
    rw [hhv, IntKind.wrap_i64]
    unfold I64
    split <;> omega
  have hv3 := hset k3 hv ht3 hvI hk3
  have hle3 : Le k1 k3 := ht3 k1 hle2 hkg
  have hlike := (Like.refl l).set at' hv
  have hl3 := hv3.sl hle3
  have hxl : (setHigh l at' hv).length = l.length := setHigh_len _ _ _
  repeat (first | refine cg_seq ?_ | refine cg_region ?_ | refine rg_nil ?_ | refine eg_then ?_ | refine qsp ?_ | refine qsn ?_ | refine qsa ?_ | refine qss ?_ | refine qsi ?_ | refine qsz ?_ | refine qsl ?_ | refine qsg ?_ | refine qsf ?_ | refine qsd ?_ | refine qsE ?_ | refine qsX ?_ | refine qse ?_ | refine qsx ?_ | refine qso ?_ | refine cg_cond_true rfl ?_ | refine cg_cond_false rfl ?_ | refine cg_skip ?_ | refine cg_block ?_ | refine eg_in_normal ?_ | refine cg_ret ?_ | refine eg_then_ret ?_ | refine eg_in_ret ?_ | refine cg_exit ?_ | refine eg_then_exit ?_ | refine eg_in_exit ?_ | refine eg_in_other rfl ?_)
  have qc := cut_ctn hl3 (by omega) (hlike.small hsm)
  rw [hxl] at qc
  refine rvn rfl rfl rfl rfl rfl rfl rfl qc ?_
  rintro N4 k4 vb hN4 hf4 hle4 hr4
  obtain ⟨v1, e1, rfl⟩ : ∃ v1 e1, vb = .tuple #[v1, .int .i64 e1] := by
    unfold CutN at hr4
    split at hr4
    · obtain ⟨_, v1, _, _, h3, _⟩ := hr4
      exact ⟨v1, 0, h3⟩
    · exact ⟨_, 1, hr4⟩
  repeat (first | refine cg_seq ?_ | refine cg_region ?_ | refine rg_nil ?_ | refine eg_then ?_ | refine qsp ?_ | refine qsn ?_ | refine qsa ?_ | refine qss ?_ | refine qsi ?_ | refine qsz ?_ | refine qsl ?_ | refine qsg ?_ | refine qsf ?_ | refine qsd ?_ | refine qsE ?_ | refine qsX ?_ | refine qse ?_ | refine qsx ?_ | refine qso ?_ | refine cg_cond_true rfl ?_ | refine cg_cond_false rfl ?_ | refine cg_skip ?_ | refine cg_block ?_ | refine eg_in_normal ?_ | refine cg_ret ?_ | refine eg_then_ret ?_ | refine eg_in_ret ?_ | refine cg_exit ?_ | refine eg_then_exit ?_ | refine eg_in_exit ?_ | refine eg_in_other rfl ?_)
  rcases hi1 with ⟨hm, rfl, m, hcm, hm0, rfl⟩ | ⟨hm, rfl, rfl⟩
  rotate_left
  · repeat (first | refine cg_seq ?_ | refine cg_region ?_ | refine rg_nil ?_ | refine eg_then ?_ | refine qsp ?_ | refine qsn ?_ | refine qsa ?_ | refine qss ?_ | refine qsi ?_ | refine qsz ?_ | refine qsl ?_ | refine qsg ?_ | refine qsf ?_ | refine qsd ?_ | refine qsE ?_ | refine qsX ?_ | refine qse ?_ | refine qsx ?_ | refine qso ?_ | refine cg_cond_true rfl ?_ | refine cg_cond_false rfl ?_ | refine cg_skip ?_ | refine cg_block ?_ | refine eg_in_normal ?_ | refine cg_ret ?_ | refine eg_then_ret ?_ | refine eg_in_ret ?_ | refine cg_exit ?_ | refine eg_then_exit ?_ | refine eg_in_exit ?_ | refine eg_in_other rfl ?_)
    exact eg_return rfl rfl rfl
  have hma := hm at' hat
  have hvr : l[at'].high ≤ hv ∧ 0 ≤ hv ∧ hv ≤ 1099511627776 := by
    have h1 := hma.2.2.2.1
    have h2 := hma.2.2.2.2
    rw [hhv, wrapi' (by omega)]
    split <;> omega
  have hmx : MayV (setHigh l at' hv) := hlike.may hm fun i hi => by
    have hil : i < l.length := by rw [setHigh_len] at hi; exact hi
    rw [setHigh_at hil]
    have := hm i hil
    split
    · exact ⟨hvr.2.1, hvr.2.2⟩
    · exact ⟨this.2.2.2.1, this.2.2.2.2⟩
  have hup : ∀ i, (hi : i < l.length) → (hi' : i < (setHigh l at' hv).length) → l[i].high ≤ (setHigh l at' hv)[i].high := fun i hi hi' => by
    rw [setHigh_at hi]
    split
    · rename_i e; subst e; exact hvr.1
    · exact Int.le_refl _
  unfold CutN at hr4
  rw [if_pos hmx] at hr4
  obtain ⟨m', v1', hcm', hm0', h4, hrow4, hok4⟩ := hr4
  simp only [Value.tuple.injEq, Array.mk.injEq, List.cons.injEq, Value.int.injEq, true_and, and_true] at h4
  obtain ⟨rfl, rfl⟩ := h4
  have hpw := hlike.higher hup hcm hcm'
  rw [hlike.marks] at hrow4 hok4
  have hml : m.length = l.length := hcm.len
  have hml' : m'.length = l.length := by rw [hcm'.len, hxl]
  obtain ⟨ab, cb, rfl, hsb⟩ := Row.sl (T := tMark) hrow4 fun x hx => ⟨rfl, hok4 x hx⟩
  have hgN : g < N4 := by
    by_cases hlt : g < N4
    · exact hlt
    · have := hf4 g (by omega)
      rw [hk3] at this; cases this
  have hab : ∀ ad, ab = some ad → ad.block ≠ g := fun ad e => by
    subst e
    have := (hrow4.block (g := ad.block) rfl).1
    omega
  have hle14 := hle3.trans hle4
  have e1 := marksOf_len hml
  have e1' := marksOf_len hml'
  repeat (first | refine cg_seq ?_ | refine cg_region ?_ | refine rg_nil ?_ | refine eg_then ?_ | refine qsp ?_ | refine qsn ?_ | refine qsa ?_ | refine qss ?_ | refine qsi ?_ | refine qsz ?_ | refine qsl ?_ | refine qsg ?_ | refine qsf ?_ | refine qsd ?_ | refine qsE ?_ | refine qsX ?_ | refine qse ?_ | refine qsx ?_ | refine qso ?_ | refine cg_cond_true rfl ?_ | refine cg_cond_false rfl ?_ | refine cg_skip ?_ | refine cg_block ?_ | refine eg_in_normal ?_ | refine cg_ret ?_ | refine eg_then_ret ?_ | refine eg_in_ret ?_ | refine cg_exit ?_ | refine eg_then_exit ?_ | refine eg_in_exit ?_ | refine eg_in_other rfl ?_)
  refine cg_loop (fun (i : Nat) e k' => ∃ x, Like l x ∧ (∀ j, (h : j < x.length) → j < i → x[j].high = 0) ∧ VRow F.w0.heap.size k1 k' g l.length cap x ∧ Le k1 k' ∧ Sl tMark k' ab cb (marksOf l m') ∧ i ≤ l.length ∧ e = [(0, .is (.slice a l.length c)), (7, .is (.bool true)), (8, .is (.slice a1 (marksOf l m).length c1)), (11, .is (.slice (some ⟨g, 0, none⟩) l.length cap)), (12, .is (.slice ab (marksOf l m').length cb)), (13, .is (.int .i64 0)), (14, .is (.int .i64 (i : Int)))])
    (fun i => l.length - i) 0 (e0 := [(0, .is (.slice a l.length c)), (7, .is (.bool true)), (8, .is (.slice a1 (marksOf l m).length c1)), (11, .is (.slice (some ⟨g, 0, none⟩) l.length cap)), (12, .is (.slice ab (marksOf l m').length cb)), (13, .is (.int .i64 0)), (14, .is (.int .i64 ((0 : Nat) : Int)))])
    ⟨_, hlike, fun j _ hj => by omega, hv3.le hle4, hle14, hsb, Nat.zero_le _, rfl⟩ ⟨rfl, rfl, rfl, rfl, rfl, rfl, rfl, trivial⟩ ?_
  rintro i e k5 ⟨x, hlx, hz, hvx, hle5, hsb5, hi, rfl⟩
  repeat (first | refine cg_seq ?_ | refine cg_region ?_ | refine rg_nil ?_ | refine eg_then ?_ | refine qsp ?_ | refine qsn ?_ | refine qsa ?_ | refine qss ?_ | refine qsi ?_ | refine qsz ?_ | refine qsl ?_ | refine qsg ?_ | refine qsf ?_ | refine qsd ?_ | refine qsE ?_ | refine qsX ?_ | refine qse ?_ | refine qsx ?_ | refine qso ?_ | refine cg_cond_true rfl ?_ | refine cg_cond_false rfl ?_ | refine cg_skip ?_ | refine cg_block ?_ | refine eg_in_normal ?_ | refine cg_ret ?_ | refine eg_then_ret ?_ | refine eg_in_ret ?_ | refine cg_exit ?_ | refine eg_then_exit ?_ | refine eg_in_exit ?_ | refine eg_in_other rfl ?_)
  refine cg_cond rfl (fun h => ?_) (fun h => ?_)
  · have hlt : i < l.length := by simpa using h
    obtain ⟨cur, hNg, hgk, hsz, hcg, _, hset⟩ := hvx.at (i := i) (by rw [hlx.1]; exact hlt)
    repeat (first | refine cg_seq ?_ | refine cg_region ?_ | refine rg_nil ?_ | refine eg_then ?_ | refine qsp ?_ | refine qsn ?_ | refine qsa ?_ | refine qss ?_ | refine qsi ?_ | refine qsz ?_ | refine qsl ?_ | refine qsg ?_ | refine qsf ?_ | refine qsd ?_ | refine qsE ?_ | refine qsX ?_ | refine qse ?_ | refine qsx ?_ | refine qso ?_ | refine cg_cond_true rfl ?_ | refine cg_cond_false rfl ?_ | refine cg_skip ?_ | refine cg_block ?_ | refine eg_in_normal ?_ | refine cg_ret ?_ | refine eg_then_ret ?_ | refine eg_in_ret ?_ | refine cg_exit ?_ | refine eg_then_exit ?_ | refine eg_in_exit ?_ | refine eg_in_other rfl ?_)
    refine rw0 rfl rfl rfl rfl rfl rfl rfl rfl hgk ?_ (.inl hNg) ?_
    · simp; omega
    intro k6 ht6 hk6
    have hv6 := hset k6 0 ht6 (by decide) hk6
    repeat (first | refine cg_seq ?_ | refine cg_region ?_ | refine rg_nil ?_ | refine eg_then ?_ | refine qsp ?_ | refine qsn ?_ | refine qsa ?_ | refine qss ?_ | refine qsi ?_ | refine qsz ?_ | refine qsl ?_ | refine qsg ?_ | refine qsf ?_ | refine qsd ?_ | refine qsE ?_ | refine qsX ?_ | refine qse ?_ | refine qsx ?_ | refine qso ?_ | refine cg_cond_true rfl ?_ | refine cg_cond_false rfl ?_ | refine cg_skip ?_ | refine cg_block ?_ | refine eg_in_normal ?_ | refine cg_ret ?_ | refine eg_then_ret ?_ | refine eg_in_ret ?_ | refine cg_exit ?_ | refine eg_then_exit ?_ | refine eg_in_exit ?_ | refine eg_in_other rfl ?_)
    refine eg_again (i + 1) _ ⟨_, hlx.set i 0, fun j hj hji => ?_, hv6, ht6 k1 hle5 hkg, hsb5.turn1 ht6 hab (fun _ _ h => h), hlt, rfl⟩ (by omega) ⟨rfl, rfl, rfl, rfl, rfl, rfl, rfl, trivial⟩
    rw [setHigh_len] at hj
    rw [setHigh_at hj]
    split
    · rfl
    · exact hz j hj (by omega)
  · have hil : i = l.length := by simp at h; omega
    have hzz : ∀ v ∈ x, v.high = 0 := fun v hv => by
      obtain ⟨j, hj, rfl⟩ := List.getElem_of_mem hv
      exact hz j hj (by rw [hil, ← hlx.1]; exact hj)
    have hmx0 : MayV x := hlx.may hm fun j hj => by rw [hzz _ (List.getElem_mem hj)]; decide
    have hl5 := hvx.sl hle5
    have qc := cut_ct hl5 (by rw [hlx.1]; omega) (hlx.small hsm)
    rw [hlx.1] at qc
    repeat (first | refine cg_seq ?_ | refine cg_region ?_ | refine rg_nil ?_ | refine eg_then ?_ | refine qsp ?_ | refine qsn ?_ | refine qsa ?_ | refine qss ?_ | refine qsi ?_ | refine qsz ?_ | refine qsl ?_ | refine qsg ?_ | refine qsf ?_ | refine qsd ?_ | refine qsE ?_ | refine qsX ?_ | refine qse ?_ | refine qsx ?_ | refine qso ?_ | refine cg_cond_true rfl ?_ | refine cg_cond_false rfl ?_ | refine cg_skip ?_ | refine cg_block ?_ | refine eg_in_normal ?_ | refine cg_ret ?_ | refine eg_then_ret ?_ | refine eg_in_ret ?_ | refine cg_exit ?_ | refine eg_then_exit ?_ | refine eg_in_exit ?_ | refine eg_in_other rfl ?_)
    refine rv rfl rfl rfl (loc_call rfl rfl rfl rfl CutR.mono qc) ?_
    rintro k6 hle6 _ hr6
    unfold CutR at hr6
    rw [if_pos hmx0] at hr6
    obtain ⟨m0, ac, cc, hc0, hn0, rfl, hs0⟩ := hr6
    rw [hlx.marks] at hs0 ⊢
    have hml0 : m0.length = l.length := by rw [hc0.len, hlx.1]
    have e0 := marksOf_len hml0
    have hall := cut_zero hc0 hn0 hzz
    have b3 := hs0.max; have b4 := hs0.cap; unfold maxLen at b3
    repeat (first | refine cg_seq ?_ | refine cg_region ?_ | refine rg_nil ?_ | refine eg_then ?_ | refine qsp ?_ | refine qsn ?_ | refine qsa ?_ | refine qss ?_ | refine qsi ?_ | refine qsz ?_ | refine qsl ?_ | refine qsg ?_ | refine qsf ?_ | refine qsd ?_ | refine qsE ?_ | refine qsX ?_ | refine qse ?_ | refine qsx ?_ | refine qso ?_ | refine cg_cond_true rfl ?_ | refine cg_cond_false rfl ?_ | refine cg_skip ?_ | refine cg_block ?_ | refine eg_in_normal ?_ | refine cg_ret ?_ | refine eg_then_ret ?_ | refine eg_in_ret ?_ | refine cg_exit ?_ | refine eg_then_exit ?_ | refine eg_in_exit ?_ | refine eg_in_other rfl ?_)
    refine cg_loop (fun (j : Nat) e k' => Le k6 k' ∧ j ≤ (marksOf l m0).length ∧ e = [(0, .is (.slice a l.length c)), (7, .is (.bool true)), (8, .is (.slice a1 (marksOf l m).length c1)), (12, .is (.slice ab (marksOf l m').length cb)), (13, .is (.int .i64 0)), (15, .is (.slice ac (marksOf l m0).length cc)), (16, .is (.int .i64 0)), (17, .is (.int .i64 (j : Int)))])
      (fun j => (marksOf l m0).length - j) 0 (e0 := [(0, .is (.slice a l.length c)), (7, .is (.bool true)), (8, .is (.slice a1 (marksOf l m).length c1)), (12, .is (.slice ab (marksOf l m').length cb)), (13, .is (.int .i64 0)), (15, .is (.slice ac (marksOf l m0).length cc)), (16, .is (.int .i64 0)), (17, .is (.int .i64 ((0 : Nat) : Int)))]) ⟨Le.refl _, Nat.zero_le _, rfl⟩ ⟨rfl, rfl, rfl, rfl, rfl, rfl, rfl, rfl, trivial⟩ ?_
    rintro j e k7 ⟨hle7, hj, rfl⟩
    repeat (first | refine cg_seq ?_ | refine cg_region ?_ | refine rg_nil ?_ | refine eg_then ?_ | refine qsp ?_ | refine qsn ?_ | refine qsa ?_ | refine qss ?_ | refine qsi ?_ | refine qsz ?_ | refine qsl ?_ | refine qsg ?_ | refine qsf ?_ | refine qsd ?_ | refine qsE ?_ | refine qsX ?_ | refine qse ?_ | refine qsx ?_ | refine qso ?_ | refine cg_cond_true rfl ?_ | refine cg_cond_false rfl ?_ | refine cg_skip ?_ | refine cg_block ?_ | refine eg_in_normal ?_ | refine cg_ret ?_ | refine eg_then_ret ?_ | refine eg_in_ret ?_ | refine cg_exit ?_ | refine eg_then_exit ?_ | refine eg_in_exit ?_ | refine eg_in_other rfl ?_)
    refine cg_cond rfl (fun h => ?_) (fun h => ?_)
    · have hjt : j < (marksOf l m0).length := by simpa using h
      obtain ⟨bm, om, cm, rfl, ⟨rfl, hmok⟩, hcm⟩ := (hs0.le hle7).el j (marksOf l m0)[j] (List.getElem?_eq_getElem hjt)
      obtain ⟨s0, s1⟩ := Mark.parts hcm
      have hz0 : (marksOf l m0)[j].off = 0 := by
        rw [marksOf_at (by omega) (by omega)]
        exact hall _ (List.getElem_mem _)
      rw [hz0] at s1
      repeat (first | refine cg_seq ?_ | refine cg_region ?_ | refine rg_nil ?_ | refine eg_then ?_ | refine qsp ?_ | refine qsn ?_ | refine qsa ?_ | refine qss ?_ | refine qsi ?_ | refine qsz ?_ | refine qsl ?_ | refine qsg ?_ | refine qsf ?_ | refine qsd ?_ | refine qsE ?_ | refine qsX ?_ | refine qse ?_ | refine qsx ?_ | refine qso ?_ | refine cg_cond_true rfl ?_ | refine cg_cond_false rfl ?_ | refine cg_skip ?_ | refine cg_block ?_ | refine eg_in_normal ?_ | refine cg_ret ?_ | refine eg_then_ret ?_ | refine eg_in_ret ?_ | refine cg_exit ?_ | refine eg_then_exit ?_ | refine eg_in_exit ?_ | refine eg_in_other rfl ?_)
      exact eg_again (j + 1) _ ⟨hle7, hjt, rfl⟩ (by omega) ⟨rfl, rfl, rfl, rfl, rfl, rfl, rfl, rfl, trivial⟩
    · have hs1 := hs1.le ((hle5.trans hle6).trans hle7)
      have hsb7 := hsb5.le (hle6.trans hle7)
      have hs07 := hs0.le hle7
      have q1 := cBelow_ct hs1 hsb7
      rw [below_marks hm hml hml' hpw] at q1
      have q2 := cBelow_ct hs07 hs1
      rw [below_marks hm hml0 hml ⟨by omega, fun i h1 h2 => by rw [hall _ (List.getElem_mem h1)]; exact hm0 _ (List.getElem_mem h2)⟩] at q2
      repeat (first | refine cg_seq ?_ | refine cg_region ?_ | refine rg_nil ?_ | refine eg_then ?_ | refine qsp ?_ | refine qsn ?_ | refine qsa ?_ | refine qss ?_ | refine qsi ?_ | refine qsz ?_ | refine qsl ?_ | refine qsg ?_ | refine qsf ?_ | refine qsd ?_ | refine qsE ?_ | refine qsX ?_ | refine qse ?_ | refine qsx ?_ | refine qso ?_ | refine cg_cond_true rfl ?_ | refine cg_cond_false rfl ?_ | refine cg_skip ?_ | refine cg_block ?_ | refine eg_in_normal ?_ | refine cg_ret ?_ | refine eg_then_ret ?_ | refine eg_in_ret ?_ | refine cg_exit ?_ | refine eg_then_exit ?_ | refine eg_in_exit ?_ | refine eg_in_other rfl ?_)
      refine rs rfl rfl (loc_call_is rfl rfl rfl rfl (q1)) ?_
      repeat (first | refine cg_seq ?_ | refine cg_region ?_ | refine rg_nil ?_ | refine eg_then ?_ | refine qsp ?_ | refine qsn ?_ | refine qsa ?_ | refine qss ?_ | refine qsi ?_ | refine qsz ?_ | refine qsl ?_ | refine qsg ?_ | refine qsf ?_ | refine qsd ?_ | refine qsE ?_ | refine qsX ?_ | refine qse ?_ | refine qsx ?_ | refine qso ?_ | refine cg_cond_true rfl ?_ | refine cg_cond_false rfl ?_ | refine cg_skip ?_ | refine cg_block ?_ | refine eg_in_normal ?_ | refine cg_ret ?_ | refine eg_then_ret ?_ | refine eg_in_ret ?_ | refine cg_exit ?_ | refine eg_then_exit ?_ | refine eg_in_exit ?_ | refine eg_in_other rfl ?_)
      refine rs rfl rfl (loc_call_is rfl rfl rfl rfl (q2)) ?_
      repeat (first | refine cg_seq ?_ | refine cg_region ?_ | refine rg_nil ?_ | refine eg_then ?_ | refine qsp ?_ | refine qsn ?_ | refine qsa ?_ | refine qss ?_ | refine qsi ?_ | refine qsz ?_ | refine qsl ?_ | refine qsg ?_ | refine qsf ?_ | refine qsd ?_ | refine qsE ?_ | refine qsX ?_ | refine qse ?_ | refine qsx ?_ | refine qso ?_ | refine cg_cond_true rfl ?_ | refine cg_cond_false rfl ?_ | refine cg_skip ?_ | refine cg_block ?_ | refine eg_in_normal ?_ | refine cg_ret ?_ | refine eg_then_ret ?_ | refine eg_in_ret ?_ | refine cg_exit ?_ | refine eg_then_exit ?_ | refine eg_in_exit ?_ | refine eg_in_other rfl ?_)
      rw [e0, show ((l.length : Int) == (l.length : Int)) = true by simp]
      repeat (first | refine cg_seq ?_ | refine cg_region ?_ | refine rg_nil ?_ | refine eg_then ?_ | refine qsp ?_ | refine qsn ?_ | refine qsa ?_ | refine qss ?_ | refine qsi ?_ | refine qsz ?_ | refine qsl ?_ | refine qsg ?_ | refine qsf ?_ | refine qsd ?_ | refine qsE ?_ | refine qsX ?_ | refine qse ?_ | refine qsx ?_ | refine qso ?_ | refine cg_cond_true rfl ?_ | refine cg_cond_false rfl ?_ | refine cg_skip ?_ | refine cg_block ?_ | refine eg_in_normal ?_ | refine cg_ret ?_ | refine eg_then_ret ?_ | refine eg_in_ret ?_ | refine cg_exit ?_ | refine eg_then_exit ?_ | refine eg_in_exit ?_ | refine eg_in_other rfl ?_)
      exact eg_return rfl rfl rfl
end Go.Wm

/-
  Those that are needed. Conditions: that what is handed in reads as data, and that there are few.
-/
import Derived.Test.YtpinnhemlcpkaaaR12
set_option linter.all false
namespace Go.Wm
open Go.RowKit Go.Proofs
attribute [local irreducible] RG CG EG WA Loc Det Alc CT Exit.then Exit.inBlock Code.wp bodyPost

def ndF (l : List Rec) (j : Nat) : Option Rec := match l[j]? with
  | some r => if neededP r (l.drop (j + 1)) then some r else none
  | none => none
/-- The needed ones among the first i. -/
def nd (l : List Rec) (i : Nat) : List Rec := (List.range i).filterMap (ndF l)
theorem nd_succ {l : List Rec} {i : Nat} (h : i < l.length) : nd l (i + 1) = nd l i ++ (if neededP l[i] (l.drop (i + 1)) then [l[i]] else []) := by
  unfold nd
  rw [List.range_succ, List.filterMap_append]
  congr 1
  have e : ndF l i = if neededP l[i] (l.drop (i + 1)) then some l[i] else none := by
    unfold ndF; rw [List.getElem?_eq_getElem h]
  cases q : neededP l[i] (l.drop (i + 1)) <;> simp [e, q]
theorem nd_len (l : List Rec) (i : Nat) : (nd l i).length ≤ i := by
  unfold nd
  refine Nat.le_trans (List.length_filterMap_le _ _) ?_
  simp
theorem nd_mem {l : List Rec} {i : Nat} {r : Rec} (h : r ∈ nd l i) : r ∈ l := by
  unfold nd at h
  rw [List.mem_filterMap] at h
  obtain ⟨j, _, hj⟩ := h
  unfold ndF at hj
  split at hj
  · rename_i x hx
    split at hj
    · cases hj; exact List.mem_of_getElem? hx
    · cases hj
  · cases hj
theorem sl_mono {α : Type} {T : Ty α} {xs : List α} (k k' : PH) (v : Value) (hle : Le k k') : (∃ a c, v = .slice a xs.length c ∧ Sl T k a c xs) → ∃ a c, v = .slice a xs.length c ∧ Sl T k' a c xs := fun ⟨a, c, h1, h2⟩ => ⟨a, c, h1, h2.le hle⟩

def neededL (bs : List Batch) (gone : List Gone) (to : Int) : List Rec := nd (recsP (bs.filter (showB gone to))) (recsP (bs.filter (showB gone to))).length

set_option maxHeartbeats 1000000 in
theorem neededAll_ct {k : PH} {a a2 : Option Addr} {c c2 : Nat} {bs : List Batch} {gone : List Gone} (to : Int) (hl : Sl tBatch k a c bs) (hg : Sl tGone k a2 c2 gone) (h100 : ∀ b ∈ bs, b.recs.length ≤ 100) (hb : bs.length ≤ 10000) :
    CT Try.prog 30 #[.slice a bs.length c, .slice a2 gone.length c2, .int .i64 to] k (fun k' v => ∃ a' c', v = .slice a' (neededL bs gone to).length c' ∧ Sl tRec k' a' c' (neededL bs gone to)) := by
  refine ct_of_body (l := [_, _, _]) Try.func30 rfl Try.ntmps30 (by simp) (fun k k' v hle ⟨a, c, h1, h2⟩ => ⟨a, c, h1, h2.le hle⟩) fun F hF0 hFm => ?_
  have b1 := hl.cap; have b2 := hl.max; unfold maxLen at b2
  repeat (first | refine cg_seq ?_ | refine cg_region ?_ | refine rg_nil ?_ | refine eg_then ?_ | refine qsp ?_ | refine qsn ?_ | refine qsa ?_ | refine qss ?_ | refine qsi ?_ | refine qsz ?_ | refine qsl ?_ | refine qsg ?_ | refine qsf ?_ | refine qsd ?_ | refine qsE ?_ | refine qsX ?_ | refine qse ?_ | refine qsx ?_ | refine qso ?_ | refine cg_cond_true rfl ?_ | refine cg_cond_false rfl ?_ | refine cg_skip ?_ | refine cg_block ?_ | refine eg_in_normal ?_ | refine cg_ret ?_ | refine eg_then_ret ?_ | refine eg_in_ret ?_ | refine cg_exit ?_ | refine eg_then_exit ?_ | refine eg_in_exit ?_ | refine eg_in_other rfl ?_)
  refine rv rfl rfl rfl (loc_call rfl rfl rfl rfl sl_mono (refShow_ct to hl hg hb)) ?_
  rintro k1 hle1 _ ⟨a3, c3, rfl, hs3⟩
  have hfl : (bs.filter (showB gone to)).length ≤ bs.length := List.length_filter_le _ _
  have hf100 : ∀ b ∈ bs.filter (showB gone to), b.recs.length ≤ 100 := fun b hb => h100 b (List.mem_filter.1 hb).1
  refine rv rfl rfl rfl (loc_call rfl rfl rfl rfl sl_mono (recs_ct hs3 hf100 (by omega))) ?_
  rintro k2 hle2 _ ⟨a4, c4, rfl, hs4⟩
  have hlen := recsP_len hf100
  obtain ⟨l, hl0⟩ : ∃ l, recsP (bs.filter (showB gone to)) = l := ⟨_, rfl⟩
  unfold neededL
  rw [hl0] at hs4 hlen ⊢
  repeat (first | refine cg_seq ?_ | refine cg_region ?_ | refine rg_nil ?_ | refine eg_then ?_ | refine qsp ?_ | refine qsn ?_ | refine qsa ?_ | refine qss ?_ | refine qsi ?_ | refine qsz ?_ | refine qsl ?_ | refine qsg ?_ | refine qsf ?_ | refine qsd ?_ | refine qsE ?_ | refine qsX ?_ | refine qse ?_ | refine qsx ?_ | refine qso ?_ | refine cg_cond_true rfl ?_ | refine cg_cond_false rfl ?_ | refine cg_skip ?_ | refine cg_block ?_ | refine eg_in_normal ?_ | refine cg_ret ?_ | refine eg_then_ret ?_ | refine eg_in_ret ?_ | refine cg_exit ?_ | refine eg_then_exit ?_ | refine eg_in_exit ?_ | refine eg_in_other rfl ?_)
  refine cg_loop (fun (i : Nat) e k' => ∃ v, Le k2 k' ∧ Row F.w0.heap.size k' 41 5 v (nd l i).length ((nd l i).flatMap Rec.vs) ∧ Apart k2 v ∧ i ≤ l.length ∧ e = [(7, .is (.slice a4 l.length c4)), (8, .is v), (9, .is (.int .i64 (i : Int)))])
    (fun i => l.length - i) 0 ⟨.slice none 0 0, Le.refl _, row_nil _ _ _ _, apart_nil _ _ _, Nat.zero_le _, rfl⟩ ⟨rfl, rfl, rfl, trivial⟩ ?_
  rintro i e k3 ⟨v, hle, hrow, hap, hi, rfl⟩
  repeat (first | refine cg_seq ?_ | refine cg_region ?_ | refine rg_nil ?_ | refine eg_then ?_ | refine qsp ?_ | refine qsn ?_ | refine qsa ?_ | refine qss ?_ | refine qsi ?_ | refine qsz ?_ | refine qsl ?_ | refine qsg ?_ | refine qsf ?_ | refine qsd ?_ | refine qsE ?_ | refine qsX ?_ | refine qse ?_ | refine qsx ?_ | refine qso ?_ | refine cg_cond_true rfl ?_ | refine cg_cond_false rfl ?_ | refine cg_skip ?_ | refine cg_block ?_ | refine eg_in_normal ?_ | refine cg_ret ?_ | refine eg_then_ret ?_ | refine eg_in_ret ?_ | refine cg_exit ?_ | refine eg_then_exit ?_ | refine eg_in_exit ?_ | refine eg_in_other rfl ?_)
  refine cg_cond rfl (fun h => ?_) (fun h => ?_)
  · have hlt : i < l.length := by simpa using h
    obtain ⟨bx, ox, cx, rfl, ⟨rfl, hok⟩, hcx⟩ := (hs4.le hle).el i l[i] (List.getElem?_eq_getElem hlt)
    have hnl := nd_len l i
    repeat (first | refine cg_seq ?_ | refine cg_region ?_ | refine rg_nil ?_ | refine eg_then ?_ | refine qsp ?_ | refine qsn ?_ | refine qsa ?_ | refine qss ?_ | refine qsi ?_ | refine qsz ?_ | refine qsl ?_ | refine qsg ?_ | refine qsf ?_ | refine qsd ?_ | refine qsE ?_ | refine qsX ?_ | refine qse ?_ | refine qsx ?_ | refine qso ?_ | refine cg_cond_true rfl ?_ | refine cg_cond_false rfl ?_ | refine cg_skip ?_ | refine cg_block ?_ | refine eg_in_normal ?_ | refine cg_ret ?_ | refine eg_then_ret ?_ | refine eg_in_ret ?_ | refine cg_exit ?_ | refine eg_then_exit ?_ | refine eg_in_exit ?_ | refine eg_in_other rfl ?_)
    refine rs rfl rfl (loc_call_is rfl rfl rfl rfl (needed_ct (hs4.le hle) hlt)) ?_
    repeat (first | refine cg_seq ?_ | refine cg_region ?_ | refine rg_nil ?_ | refine eg_then ?_ | refine qsp ?_ | refine qsn ?_ | refine qsa ?_ | refine qss ?_ | refine qsi ?_ | refine qsz ?_ | refine qsl ?_ | refine qsg ?_ | refine qsf ?_ | refine qsd ?_ | refine qsE ?_ | refine qsX ?_ | refine qse ?_ | refine qsx ?_ | refine qso ?_ | refine cg_cond_true rfl ?_ | refine cg_cond_false rfl ?_ | refine cg_skip ?_ | refine cg_block ?_ | refine eg_in_normal ?_ | refine cg_ret ?_ | refine eg_then_ret ?_ | refine eg_in_ret ?_ | refine cg_exit ?_ | refine eg_then_exit ?_ | refine eg_in_exit ?_ | refine eg_in_other rfl ?_)
    cases q : neededP l[i] (l.drop (i + 1))
    · repeat (first | refine cg_seq ?_ | refine cg_region ?_ | refine rg_nil ?_ | refine eg_then ?_ | refine qsp ?_ | refine qsn ?_ | refine qsa ?_ | refine qss ?_ | refine qsi ?_ | refine qsz ?_ | refine qsl ?_ | refine qsg ?_ | refine qsf ?_ | refine qsd ?_ | refine qsE ?_ | refine qsX ?_ | refine qse ?_ | refine qsx ?_ | refine qso ?_ | refine cg_cond_true rfl ?_ | refine cg_cond_false rfl ?_ | refine cg_skip ?_ | refine cg_block ?_ | refine eg_in_normal ?_ | refine cg_ret ?_ | refine eg_then_ret ?_ | refine eg_in_ret ?_ | refine cg_exit ?_ | refine eg_then_exit ?_ | refine eg_in_exit ?_ | refine eg_in_other rfl ?_)
      exact eg_again (i + 1) _ ⟨v, hle, by rw [nd_succ hlt, q]; simpa using hrow, hap, hlt, rfl⟩ (by omega) ⟨rfl, rfl, rfl, trivial⟩
    · repeat (first | refine cg_seq ?_ | refine cg_region ?_ | refine rg_nil ?_ | refine eg_then ?_ | refine qsp ?_ | refine qsn ?_ | refine qsa ?_ | refine qss ?_ | refine qsi ?_ | refine qsz ?_ | refine qsl ?_ | refine qsg ?_ | refine qsf ?_ | refine qsd ?_ | refine qsE ?_ | refine qsX ?_ | refine qse ?_ | refine qsx ?_ | refine qso ?_ | refine cg_cond_true rfl ?_ | refine cg_cond_false rfl ?_ | refine cg_skip ?_ | refine cg_block ?_ | refine eg_in_normal ?_ | refine cg_ret ?_ | refine eg_then_ret ?_ | refine eg_in_ret ?_ | refine cg_exit ?_ | refine eg_then_exit ?_ | refine eg_in_exit ?_ | refine eg_in_other rfl ?_)
      refine rb rfl rfl rfl rfl (a_slice rfl rfl rfl rfl (by kernel_rfl) rfl) ?_; intro b7 k7 hb7 hN7 hle7 hk7
      have c7 := cells_at (vs := l[i].vs) hk7 rfl
      refine rap rfl rfl rfl rfl rfl rfl rfl (hrow.le hle7) c7 rfl (by simp [Rec.vs, Value.oneCell']) rfl rfl (by unfold maxLen; omega) (by omega) ?_
      intro v' k8 hrow8 hturn
      obtain ⟨hle8, hap8⟩ := hturn k2 (hle.trans hle7) hap
      repeat (first | refine cg_seq ?_ | refine cg_region ?_ | refine rg_nil ?_ | refine eg_then ?_ | refine qsp ?_ | refine qsn ?_ | refine qsa ?_ | refine qss ?_ | refine qsi ?_ | refine qsz ?_ | refine qsl ?_ | refine qsg ?_ | refine qsf ?_ | refine qsd ?_ | refine qsE ?_ | refine qsX ?_ | refine qse ?_ | refine qsx ?_ | refine qso ?_ | refine cg_cond_true rfl ?_ | refine cg_cond_false rfl ?_ | refine cg_skip ?_ | refine cg_block ?_ | refine eg_in_normal ?_ | refine cg_ret ?_ | refine eg_then_ret ?_ | refine eg_in_ret ?_ | refine cg_exit ?_ | refine eg_then_exit ?_ | refine eg_in_exit ?_ | refine eg_in_other rfl ?_)
      refine eg_again (i + 1) _ ⟨v', hle8, ?_, hap8, hlt, rfl⟩ (by omega) ⟨rfl, rfl, rfl, trivial⟩
      rw [nd_succ hlt, q, List.flatMap_append, List.length_append]
      simpa using hrow8
  · repeat (first | refine cg_seq ?_ | refine cg_region ?_ | refine rg_nil ?_ | refine eg_then ?_ | refine qsp ?_ | refine qsn ?_ | refine qsa ?_ | refine qss ?_ | refine qsi ?_ | refine qsz ?_ | refine qsl ?_ | refine qsg ?_ | refine qsf ?_ | refine qsd ?_ | refine qsE ?_ | refine qsX ?_ | refine qse ?_ | refine qsx ?_ | refine qso ?_ | refine cg_cond_true rfl ?_ | refine cg_cond_false rfl ?_ | refine cg_skip ?_ | refine cg_block ?_ | refine eg_in_normal ?_ | refine cg_ret ?_ | refine eg_then_ret ?_ | refine eg_in_ret ?_ | refine cg_exit ?_ | refine eg_then_exit ?_ | refine eg_in_exit ?_ | refine eg_in_other rfl ?_)
    have hil : i = l.length := by simp at h; omega
    rw [hil] at hrow
    obtain ⟨ai, ci, rfl, hsl⟩ := Row.sl (T := tRec) hrow (fun x hx => ⟨rfl, by
      obtain ⟨q, hq, rfl⟩ := List.getElem_of_mem (nd_mem hx)
      obtain ⟨_, _, _, _, ⟨_, h⟩, _⟩ := hs4.el q l[q] (List.getElem?_eq_getElem hq)
      exact h⟩)
    refine eg_return rfl rfl ⟨ai, ci, rfl, hsl⟩
end Go.Wm

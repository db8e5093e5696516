/-
  What a committed reader is told, and whether batches are few, and rise. Conditions: that what is handed in reads as data.
-/
import Derived.Test.YtjonlpdnhbnmmaaGreatO8
import Derived.Test.YtjonlpdnhbnmmaaGreatA4
set_option linter.all false
namespace Go.Wm
open Go.RowKit Go.Proofs
attribute [local irreducible] RG CG EG WA Loc Det Alc CT Exit.then Exit.inBlock Code.wp bodyPost

set_option maxHeartbeats 1000000 in
theorem indexFuncBatch_ct {k : PH} {a : Option Addr} {c : Nat} {l : List Batch} (hl : Sl tBatch k a c l) {g : FuncId} [FnOk Tryz.prog g] {cap : Array Value} (f : Batch → Bool)
    (hf : ∀ m ∈ l, ∀ cm, tBatch.rep k cm m → CT Tryz.prog g (#[] ++ [.agg cm.toArray].toArray ++ cap) k (fun _ v => v = .bool (f m))) :
    CT Tryz.prog 76 #[.slice a l.length c, .func (.func g) #[] cap] k (fun _ v => v = .int .i64 (idxF l f)) := by
  refine ct_of_body (l := [_, _]) Tryz.func76 rfl Tryz.ntmps76 (by simp) (fun _ _ _ _ h => h) fun F hF0 hFm => ?_
  have b1 := hl.cap; have b2 := hl.max; unfold maxLen at b2
  repeat (first | refine cg_seq ?_ | refine cg_region ?_ | refine rg_nil ?_ | refine eg_then ?_ | refine qsp ?_ | refine qsn ?_ | refine cg_block ?_)
  refine cg_loop (fun (i : Nat) e k' => k' = k ∧ i ≤ l.length ∧ (∀ x ∈ l.take i, f x = false) ∧ e = [(0, .is (.slice a l.length c)), (1, .is (.func (.func g) #[] cap)), (7, .is (.int .i64 (l.length : Int))), (8, .is (.int .i64 (i : Int)))])
    (fun i => l.length - i) 0 ⟨rfl, Nat.zero_le _, by simp, rfl⟩ ⟨rfl, rfl, rfl, rfl, trivial⟩ ?_
  rintro i e k1 ⟨rfl, hi, hno, rfl⟩
  repeat (first | refine cg_seq ?_ | refine cg_region ?_ | refine rg_nil ?_ | refine eg_then ?_ | refine qsp ?_)
  refine cg_cond rfl (fun h => ?_) (fun h => ?_)
  · have hlt : i < l.length := by simpa using h
    obtain ⟨bx, ox, cx, rfl, hrep, hcx⟩ := hl.el i l[i] (List.getElem?_eq_getElem hlt)
    have hcl := tBatch.len hrep
    have hcall := hf l[i] (List.getElem_mem hlt) cx hrep
    repeat (first | refine cg_seq ?_ | refine cg_region ?_ | refine rg_nil ?_ | refine eg_then ?_ | refine qsp ?_ | refine qsi ?_ | refine cg_skip ?_ | refine cg_block ?_)
    refine rs rfl rfl (loc_det rfl (d_load_agg (vs := cx) rfl rfl rfl hcl hcx)) ?_
    refine rs rfl rfl (loc_call_is rfl rfl rfl rfl (hcall)) ?_
    repeat (first | refine rg_nil ?_ | refine eg_then ?_)
    by_cases hw : f l[i] = true
    · refine cg_cond_true (by simp [opv, get, Nat.beq, hw]) ?_
      repeat (first | refine cg_seq ?_ | refine cg_region ?_ | refine rg_nil ?_ | refine eg_then ?_ | refine qsp ?_ | refine cg_ret ?_ | refine eg_then_ret ?_ | refine eg_in_ret ?_)
      refine eg_return rfl rfl ?_
      rw [idxF_at hlt hw hno]
    · refine cg_cond_false (by simp [opv, get, Nat.beq, hw]) ?_
      repeat (first | refine cg_region ?_ | refine rg_nil ?_ | refine eg_then ?_ | refine qsp ?_ | refine qsa ?_ | refine cg_skip ?_ | refine eg_in_normal ?_)
      refine eg_again (i + 1) _ ⟨rfl, hlt, fun x hx => ?_, rfl⟩ (by omega) ⟨rfl, rfl, rfl, rfl, trivial⟩
      rw [List.take_succ_eq_append_getElem hlt] at hx
      rcases List.mem_append.1 hx with hx | hx
      · exact hno x hx
      · simp at hx; rw [hx]; simpa using hw
  · repeat (first | refine cg_seq ?_ | refine cg_region ?_ | refine rg_nil ?_ | refine eg_then ?_ | refine qsp ?_ | refine cg_ret ?_ | refine cg_exit ?_ | refine eg_then_exit ?_ | refine eg_in_exit ?_)
    refine eg_return rfl rfl ?_
    have : i = l.length := by simp at h; omega
    rw [this, List.take_length] at hno
    rw [idxF_no hno]

set_option maxHeartbeats 400000 in
theorem cloneBatch_ct {k : PH} {a : Option Addr} {c : Nat} {l : List Batch} (hl : Sl tBatch k a c l) (hb : l.length * 104 ≤ 140737488355328) :
    CTN Tryz.prog 42 #[.slice a l.length c] k (fun N k' v => ∃ css, Pieces tBatch k css l ∧ Row N k' 45 10 v l.length css.flatten) := by
  refine ctn_of_body (l := [_]) Tryz.func42 rfl Tryz.ntmps42 (by simp) (fun N k k' v hle ⟨css, h1, h2⟩ => ⟨css, h1, h2.le hle⟩) fun F hF0 hFm => ?_
  have b1 := hl.cap; have b2 := hl.max; unfold maxLen at b2
  repeat (first | refine cg_seq ?_ | refine cg_region ?_ | refine rg_nil ?_ | refine eg_then ?_ | refine qsp ?_)
  refine rs rfl rfl (loc_det rfl (d_eqsl rfl rfl)) ?_
  cases a with
  | none =>
    have hc := hl.nil rfl
    have : l = [] := List.length_eq_zero_iff.1 (by omega)
    subst this
    repeat (first | refine cg_seq ?_ | refine cg_region ?_ | refine rg_nil ?_ | refine eg_then ?_ | refine qsp ?_ | refine cg_cond_true rfl ?_ | refine cg_ret ?_ | refine eg_then_ret ?_)
    exact eg_return rfl rfl ⟨[], Pieces.nil _ _, row_nil _ _ _ _⟩
  | some ad =>
    repeat (first | refine cg_seq ?_ | refine cg_region ?_ | refine rg_nil ?_ | refine eg_then ?_ | refine cg_cond_false rfl ?_ | refine cg_skip ?_)
    refine rb rfl rfl rfl rfl (a_empty rfl) ?_; intro b k2 hb2 hN2 hle2 hk2
    repeat (first | refine qsp ?_)
    refine raps2 (T := tBatch) (sz := 10) (m := 0) (olds := []) rfl rfl rfl rfl rfl rfl rfl rfl (row_empty hN2 hk2) hl hle2 Batch.one rfl rfl (by unfold maxLen; omega) (by omega) ?_
    intro v k3 css hp hrow ht
    repeat (first | refine rg_nil ?_ | refine eg_then ?_ | refine qsp ?_ | refine cg_ret ?_)
    refine eg_return rfl rfl ⟨css, hp, by simpa using hrow⟩

set_option maxHeartbeats 2000000 in
theorem deleteFuncBatch_ct {N : Nat} {h k : PH} {v : Value} {css : List (List Value)} {l : List Batch} {g : FuncId} [FnOk Tryz.prog g] {cap : Array Value} (f : Batch → Bool) (hrow : Row N k 45 10 v l.length css.flatten) (hp : Pieces tBatch h css l) (hle : Le h k) (hap : Apart h v)
    (hf : ∀ k0, Le h k0 → ∀ x cm, tBatch.rep k0 cm x → CT Tryz.prog g (#[] ++ [.agg cm.toArray].toArray ++ cap) k0 (fun _ v => v = .bool (f x))) :
    CTM Tryz.prog 41 #[v, .func (.func g) #[] cap] k (fun b => v.ownBlock = some b) (fun k' u => ∃ css', Row N k' 45 10 u (l.filter fun x => !f x).length css'.flatten ∧ Pieces tBatch h css' (l.filter fun x => !f x) ∧ Le h k' ∧ Apart h u) := by
  refine ctm_of_body (l := [_, _]) Tryz.func41 rfl Tryz.ntmps41 (by simp) fun F hF0 hFm hlt0 => ?_
  obtain ⟨a, c, rfl, hsl⟩ := Row.sls hrow (hp.le hle)
  have b1 := hsl.cap; have b2 := hsl.max; unfold maxLen at b2
  have hidx := indexFuncBatch_ct hsl f (fun m hm cm hcm => hf k hle m cm hcm)
  repeat (first | refine cg_seq ?_ | refine cg_region ?_ | refine rg_nil ?_ | refine eg_then ?_ | refine qsp ?_)
  refine rs rfl rfl (loc_call_is rfl rfl rfl rfl (hidx)) ?_
  repeat (first | refine cg_seq ?_ | refine cg_region ?_ | refine rg_nil ?_ | refine eg_then ?_ | refine qsp ?_)
  rcases idxF_cases l f with ⟨hx, hno⟩ | ⟨i0, hi0, hx, hyes, hno⟩
  · rw [hx]
    repeat (first | refine cg_seq ?_ | refine cg_region ?_ | refine rg_nil ?_ | refine eg_then ?_ | refine qsp ?_ | refine cg_cond_true rfl ?_ | refine cg_ret ?_ | refine eg_then_ret ?_)
    refine eg_return rfl rfl ⟨css, ?_⟩
    have : l.filter (fun x => !f x) = l := List.filter_eq_self.2 fun x hx => by rw [hno x hx]; rfl
    rw [this]
    exact ⟨hrow, hp, hle, hap⟩
  · rw [hx]
    have hcl0 : ∀ y ∈ css, y.length = 10 := hp.len
    have hcll : css.length = l.length := hp.1
    obtain ⟨g0, cap0, cur0, hv0, hN0, hg0, _⟩ : ∃ g cap cur, Value.slice a l.length c = .slice (some ⟨g, 0, none⟩) l.length cap ∧ N ≤ g ∧ k g = some (.cells cur 45 (0, 0)) ∧ True := by
      obtain ⟨g, cap, cur, e1, e2, e3, _⟩ := hrow.el (i := i0) hcl0 (List.getElem?_eq_getElem (by omega)) (by decide)
      exact ⟨g, cap, cur, e1, e2, e3, trivial⟩
    simp only [Value.slice.injEq, true_and] at hv0
    obtain ⟨rfl, rfl⟩ := hv0
    have hmu : F.mu g0 := by rw [hFm]; rfl
    have hh0 : h g0 = none := hap g0 rfl
    have hlt := hlt0 g0 _ hg0
    have tk : ∀ j, (hj : j < l.length) → (l.take (j + 1)).filter (fun x => !f x) = (l.take j).filter (fun x => !f x) ++ (if f l[j] then [] else [l[j]]) := fun j hj => by
      rw [List.take_succ_eq_append_getElem hj, List.filter_append]
      congr 1
      cases e : f l[j] <;> simp [e]
    have e1 : (l.take (i0 + 1)).filter (fun x => !f x) = l.take i0 := by
      rw [tk i0 hi0, hyes]
      simp
      exact fun x hx => by simpa using hno x hx
    have e2 : (l.take i0).length = i0 := by rw [List.length_take]; omega
    repeat (first | refine cg_seq ?_ | refine cg_region ?_ | refine rg_nil ?_ | refine eg_then ?_ | refine qsp ?_ | refine qsa ?_ | refine cg_cond_false rfl ?_ | refine cg_skip ?_ | refine cg_block ?_)
    refine cg_loop (fun (j : Nat) e k' => ∃ cs', (∀ y ∈ cs', y.length = 10) ∧ cs'.length = l.length ∧ Row N k' 45 10 (.slice (some ⟨g0, 0, none⟩) l.length c) l.length cs'.flatten ∧ Pieces tBatch h (cs'.take ((l.take j).filter fun x => !f x).length) ((l.take j).filter fun x => !f x) ∧ (∀ q, j ≤ q → cs'[q]? = css[q]?) ∧ Le h k' ∧ ((l.take j).filter fun x => !f x).length < j ∧ j ≤ l.length ∧
        e = [(0, .is (.slice (some ⟨g0, 0, none⟩) l.length c)), (1, .is (.func (.func g) #[] cap)), (5, .is (.int .i64 (((l.take j).filter fun x => !f x).length : Nat))), (6, .is (.int .i64 (j : Int)))])
      (fun j => l.length - j) (i0 + 1) ⟨css, hcl0, hcll, hrow, ?_, fun _ _ => rfl, hle, ?_, hi0, rfl⟩ ⟨rfl, rfl, ?_, rfl, trivial⟩ ?_
    · rw [e1, e2]
      refine ⟨by simp; omega, fun q cs x h1 h2 => ?_⟩
      rw [List.getElem?_take] at h1 h2
      split at h1
      · rename_i hq
        rw [if_pos hq] at h2
        exact hp.2 q cs x h1 h2
      · cases h1
    · rw [e1, e2]; omega
    · rw [e1, e2]; rfl
    · rintro j e k1 ⟨cs', hal, hcl, hrow1, hp1, hq1, hle1, hij, hj, rfl⟩
      obtain ⟨m, hm⟩ : ∃ m, ((l.take j).filter fun x => !f x).length = m := ⟨_, rfl⟩
      rw [hm] at hp1 hij ⊢
      repeat (first | refine cg_seq ?_ | refine cg_region ?_ | refine rg_nil ?_ | refine eg_then ?_ | refine qsp ?_ | refine qsn ?_)
      refine cg_cond rfl (fun hc => ?_) (fun hc => ?_)
      · have hlj : j < l.length := by simpa using hc
        obtain ⟨x, hxj⟩ : ∃ x, l[j] = x := ⟨_, rfl⟩
        have htk := tk j hlj
        rw [hxj] at htk
        have hcj : cs'[j]? = some css[j] := by rw [hq1 j (Nat.le_refl _)]; exact List.getElem?_eq_getElem (by omega)
        have hrep := hp.2 j _ x (List.getElem?_eq_getElem (by omega)) (by rw [List.getElem?_eq_getElem hlj, hxj])
        obtain ⟨cx, hcx⟩ : ∃ cx, css[j] = cx := ⟨_, rfl⟩
        rw [hcx] at hcj hrep
        have hcxl := tBatch.len hrep
        have hone := Batch.one h cx x hrep
        obtain ⟨g', cap', cur, hv1, hN1, hg1, _, hmc, _, hcel, _⟩ := hrow1.el hal hcj (by decide)
        simp only [Value.slice.injEq, true_and, Option.some.injEq, Addr.mk.injEq, and_true] at hv1
        obtain ⟨rfl, rfl⟩ := hv1
        repeat (first | refine cg_seq ?_ | refine cg_region ?_ | refine eg_then ?_ | refine qsp ?_ | refine qsi ?_ | refine cg_skip ?_ | refine cg_block ?_)
        refine rs rfl rfl (loc_det rfl (d_load_agg (vs := cx) rfl rfl rfl hcxl hcel)) ?_
        refine rb rfl rfl rfl rfl (a_alloc rfl) ?_; intro b7 k7 hb7 hN7 hle7 hk7
        refine rw1 rfl rfl rfl rfl rfl rfl hcxl hk7 (by rw [hcxl]; rfl) (.inl hN7) hone ?_
        intro k8 ht8 hk8
        have c8 := cells_at (vs := cx) hk8 rfl
        have hle8 : Le k1 k8 := ht8 k1 hle7 hb7
        have n7 := some_ne hg1 hb7
        have hcall := hf k8 (hle1.trans hle8) x cx (tBatch.mono (hle1.trans hle8) hrep)
        repeat (first | refine cg_seq ?_ | refine cg_region ?_ | refine rg_nil ?_ | refine eg_then ?_ | refine qsp ?_)
        refine rs rfl rfl (loc_det rfl (d_load_agg (vs := cx) rfl rfl rfl hcxl c8)) ?_
        refine rs rfl rfl (loc_call_is rfl rfl rfl rfl (hcall)) ?_
        repeat (first | refine rg_nil ?_ | refine eg_then ?_ | refine qsp ?_)
        have hml : m < l.length := by omega
        cases hfx : f x
        · rw [hfx] at htk
          simp only [Bool.false_eq_true, if_false] at htk
          have hcm : cs'[m]? = some cs'[m] := List.getElem?_eq_getElem (by omega)
          obtain ⟨g', cap', cur2, hv1, hN2, hg2, _, _, hsz2, _, hset⟩ := (hrow1.le hle8).el hal hcm (by decide)
          simp only [Value.slice.injEq, true_and, Option.some.injEq, Addr.mk.injEq, and_true] at hv1
          obtain ⟨rfl, rfl⟩ := hv1
          repeat (first | refine cg_seq ?_ | refine cg_region ?_ | refine qsp ?_ | refine cg_cond_true rfl ?_)
          refine rs rfl rfl (loc_det rfl (d_load_agg (vs := cx) rfl rfl rfl hcxl c8)) ?_
          refine rs rfl rfl (loc_det rfl (d_idx rfl rfl rfl hml)) ?_
          refine rst_agg rfl rfl rfl rfl rfl rfl hone hcxl hg2 (by rw [hcxl]; exact hsz2) (.inr hmu) ?_
          have hrow9 := hset _ cx hcxl (upd_same k8 g0 (.cells (cur2.toList.take (0 + m * 10) ++ cx ++ cur2.toList.drop (0 + m * 10 + cx.length)).toArray 45 (0, 0)))
          have hle9 := (hle1.trans hle8).upd (b := g0) (o := (.cells (cur2.toList.take (0 + m * 10) ++ cx ++ cur2.toList.drop (0 + m * 10 + cx.length)).toArray 45 (0, 0))) hh0
          generalize upd k8 g0 (.cells (cur2.toList.take (0 + m * 10) ++ cx ++ cur2.toList.drop (0 + m * 10 + cx.length)).toArray 45 (0, 0)) = k9 at hrow9 hle9 ⊢
          repeat (first | refine cg_region ?_ | refine rg_nil ?_ | refine eg_then ?_ | refine qsp ?_ | refine qsa ?_ | refine eg_in_normal ?_)
          have htl : ((l.take (j + 1)).filter fun x => !f x).length = m + 1 := by rw [htk, List.length_append, hm]; rfl
          have hst : (cs'.set m cx).take (m + 1) = cs'.take m ++ [cx] := by
            rw [List.take_succ_eq_append_getElem (by simp; omega), List.take_set_of_le (Nat.le_refl _)]
            simp
          refine eg_again (j + 1) _ ⟨cs'.set m cx, ?_, by simp [hcl], hrow9, ?_, ?_, hle9, by omega, hlj, rfl⟩ (by omega) ⟨rfl, rfl, ?_, rfl, trivial⟩
          · intro y hy
            rcases List.mem_or_eq_of_mem_set hy with hy | rfl
            · exact hal y hy
            · exact hcxl
          · rw [htl, hst, htk]
            exact hp1.append (Pieces.one hrep)
          · intro q hq
            rw [List.getElem?_set_ne (by omega)]
            exact hq1 q (by omega)
          · rw [htl]; rfl
        · rw [hfx] at htk
          simp only [if_true, List.append_nil] at htk
          repeat (first | refine cg_region ?_ | refine rg_nil ?_ | refine eg_then ?_ | refine qsp ?_ | refine qsa ?_ | refine cg_cond_false rfl ?_ | refine cg_skip ?_ | refine eg_in_normal ?_)
          refine eg_again (j + 1) _ ⟨cs', hal, hcl, hrow1.le hle8, by rw [htk, hm]; exact hp1, fun q hq => hq1 q (by omega), hle1.trans hle8, by rw [htk, hm]; omega, hlj, rfl⟩ (by omega) ⟨rfl, rfl, ?_, rfl, trivial⟩
          rw [htk, hm]; rfl
      · have hje : j = l.length := by simp at hc; omega
        subst hje
        rw [List.take_length] at hm hp1
        have hml : m ≤ l.length := by omega
        obtain ⟨_, hrow1'⟩ := hrow1.own.resolve_left (by simp)
        obtain ⟨cap', cur, hv1, hN1, hg1, hmc, hmx, hcs, htk⟩ := hrow1'
        simp only [Value.slice.injEq, true_and, Option.some.injEq, Addr.mk.injEq, and_true] at hv1
        obtain ⟨rfl, rfl⟩ := hv1
        repeat (first | refine cg_seq ?_ | refine cg_region ?_ | refine eg_then ?_ | refine qsp ?_ | refine cg_exit ?_ | refine eg_then_exit ?_ | refine eg_in_exit ?_)
        refine rs rfl rfl (loc_det rfl (d_suf_row rfl rfl rfl hml hmc)) ?_
        refine r_clear (i := m) (m := l.length) (cap := c) rfl rfl rfl rfl rfl hml hmc hg1 hcs rfl (by decide) (.inr hmu) ?_
        intro k2 cur2 ht2 hk2 hs2 htk2
        repeat (first | refine cg_seq ?_ | refine cg_region ?_ | refine rg_nil ?_ | refine eg_then ?_ | refine qsp ?_)
        refine rs rfl rfl (loc_det rfl (d_pre_row rfl rfl rfl hml hmc)) ?_
        repeat (first | refine rg_nil ?_ | refine eg_then ?_ | refine qsp ?_ | refine cg_ret ?_)
        refine eg_return rfl rfl ⟨cs'.take m, ?_, by rw [← hm] at hp1 ⊢; exact hp1, ht2 h hle1 hh0, fun g hg => by simp [Value.ownBlock] at hg; subst hg; exact hh0⟩
        have hle3 : m * 10 ≤ l.length * 10 := Nat.mul_le_mul_right _ hml
        rw [hm]
        refine ⟨?_, .inr ⟨g0, c, cur2, rfl, hN1, hk2, by omega, hmx, hs2.trans hcs, ?_⟩⟩
        · rw [flat_len _ (fun y hy => hal y (List.mem_of_mem_take hy)), List.length_take, hcl, Nat.min_eq_left hml]
        · rw [htk2, flat_take cs' m hal, ← htk, List.take_take, Nat.min_eq_left hle3]


/-- Is a batch of one that has ended? -/
def isP (b : Batch) (g : Gone) : Bool := decide (b.ctl = 0) && b.txn && decide (b.pid = g.pid) && decide (g.first ≤ b.base) && decide (b.base < g.last)
set_option maxHeartbeats 400000 in
theorem isGone_ct {k : PH} (b : Batch) (a : Option Addr) (c : Nat) (g : Gone) :
    CT Tryz.prog 78 #[.agg (b.cs a c).toArray, .agg g.vs.toArray] k (fun _ v => v = .bool (decide (b.ctl = 0) && b.txn && decide (b.pid = g.pid) && decide (g.first ≤ b.base) && decide (b.base < g.last))) := by
  refine ct_of_body (l := [_, _]) Tryz.func78 rfl Tryz.ntmps78 (by simp) (fun _ _ _ _ h => h) fun F hF0 hFm => ?_
  repeat (first | refine cg_seq ?_ | refine cg_region ?_)
  refine rb rfl rfl rfl rfl (a_box rfl rfl) ?_; intro b2 k2 hb2 hN2 hle2 hk2
  refine rb rfl rfl rfl rfl (a_box rfl rfl) ?_; intro b3 k3 hb3 hN3 hle3 hk3
  have c2 := (cells_at (vs := b.cs a c) hk2 rfl).le hle3
  have c3 := cells_at (vs := g.vs) hk3 rfl
  obtain ⟨p0, p1, p2, p3, p4, p5, p6, p7, p8, p9⟩ := Batch.parts c2
  obtain ⟨g0, g1, g2, g3⟩ := Gone.parts c3
  repeat (first | refine cg_seq ?_ | refine cg_region ?_ | refine rg_nil ?_ | refine eg_then ?_ | refine qsp ?_ | refine qsl ?_ | refine qsf ?_)
  cases q1 : (b.ctl == 0)
  · repeat (first | refine rg_nil ?_ | refine eg_then ?_ | refine qsp ?_ | refine qso ?_ | refine cg_ret ?_)
    refine eg_return rfl rfl ?_
    simp at q1; simp [q1]
  simp at q1
  repeat (first | refine qsp ?_ | refine qsl ?_ | refine qsf ?_)
  cases q2 : b.txn
  · repeat (first | refine rg_nil ?_ | refine eg_then ?_ | refine qsp ?_ | refine qso ?_ | refine cg_ret ?_)
    refine eg_return rfl rfl ?_
    simp [q1, q2]
  repeat (first | refine qsp ?_ | refine qsl ?_ | refine qsf ?_)
  cases q3 : (b.pid == g.pid)
  · repeat (first | refine rg_nil ?_ | refine eg_then ?_ | refine qsp ?_ | refine qso ?_ | refine cg_ret ?_)
    refine eg_return rfl rfl ?_
    simp at q3; simp [q1, q2, q3]
  simp at q3
  repeat (first | refine qsp ?_ | refine qsl ?_ | refine qsf ?_)
  cases q4 : decide (g.first ≤ b.base)
  · repeat (first | refine rg_nil ?_ | refine eg_then ?_ | refine qsp ?_ | refine qso ?_ | refine cg_ret ?_)
    refine eg_return rfl rfl ?_
    simp [q1, q2, q3, q4]
  repeat (first | refine rg_nil ?_ | refine eg_then ?_ | refine qsp ?_ | refine qsl ?_ | refine qsf ?_ | refine cg_ret ?_)
  refine eg_return rfl rfl ?_
  simp [q1, q2, q3, q4]
/-- Is a batch of one that has ended? (the program's, that looks at the kind ahead) -/
def ofGone (b : Batch) (g : Gone) : Bool := b.txn && decide (b.pid = g.pid) && decide (g.first ≤ b.base) && decide (b.base < g.last)
set_option maxHeartbeats 400000 in
theorem txnsOf_ct {k : PH} (b : Batch) (a : Option Addr) (c : Nat) (g : Gone) :
    CT Tryz.prog 46 #[.agg (b.cs a c).toArray, .agg g.vs.toArray] k (fun _ v => v = .bool (ofGone b g)) := by
  refine ct_of_body (l := [_, _]) Tryz.func46 rfl Tryz.ntmps46 (by simp) (fun _ _ _ _ h => h) fun F hF0 hFm => ?_
  repeat (first | refine cg_seq ?_ | refine cg_region ?_)
  refine rb rfl rfl rfl rfl (a_box rfl rfl) ?_; intro b2 k2 hb2 hN2 hle2 hk2
  refine rb rfl rfl rfl rfl (a_box rfl rfl) ?_; intro b3 k3 hb3 hN3 hle3 hk3
  have c2 := (cells_at (vs := b.cs a c) hk2 rfl).le hle3
  have c3 := cells_at (vs := g.vs) hk3 rfl
  obtain ⟨p0, p1, p2, p3, p4, p5, p6, p7, p8, p9⟩ := Batch.parts c2
  obtain ⟨g0, g1, g2, g3⟩ := Gone.parts c3
  repeat (first | refine cg_seq ?_ | refine cg_region ?_ | refine rg_nil ?_ | refine eg_then ?_ | refine qsp ?_ | refine qsl ?_ | refine qsf ?_)
  cases q2 : b.txn
  · repeat (first | refine rg_nil ?_ | refine eg_then ?_ | refine qsp ?_ | refine qso ?_ | refine cg_ret ?_)
    refine eg_return rfl rfl ?_
    simp [ofGone, q2]
  repeat (first | refine qsp ?_ | refine qsl ?_ | refine qsf ?_)
  cases q3 : (b.pid == g.pid)
  · repeat (first | refine rg_nil ?_ | refine eg_then ?_ | refine qsp ?_ | refine qso ?_ | refine cg_ret ?_)
    refine eg_return rfl rfl ?_
    simp at q3; simp [ofGone, q2, q3]
  simp at q3
  repeat (first | refine qsp ?_ | refine qsl ?_ | refine qsf ?_)
  cases q4 : decide (g.first ≤ b.base)
  · repeat (first | refine rg_nil ?_ | refine eg_then ?_ | refine qsp ?_ | refine qso ?_ | refine cg_ret ?_)
    refine eg_return rfl rfl ?_
    simp [ofGone, q2, q3, q4]
  repeat (first | refine rg_nil ?_ | refine eg_then ?_ | refine qsp ?_ | refine qsl ?_ | refine qsf ?_ | refine cg_ret ?_)
  refine eg_return rfl rfl ?_
  simp [ofGone, q2, q3, q4]

/-- The bytes of records. -/
def bytesR (l : List Rec) : Nat := (l.map fun r => r.key.size + r.val.size).sum
theorem bytesR_succ {l : List Rec} {i : Nat} (h : i < l.length) : bytesR (l.take (i + 1)) = bytesR (l.take i) + (l[i].key.size + l[i].val.size) := by
  unfold bytesR
  rw [List.take_succ_eq_append_getElem h, List.map_append, List.sum_append]; simp
theorem bytesR_take (l : List Rec) (i : Nat) : bytesR (l.take i) ≤ bytesR l := by
  have h : bytesR l = bytesR (l.take i ++ l.drop i) := by rw [List.take_append_drop]
  rw [h]
  unfold bytesR
  rw [List.map_append, List.sum_append]; omega
def fewB (b : Batch) : Bool := decide (bytesR b.recs ≤ 20000) && decide (b.recs.length ≤ 100)
def Short (b : Batch) : Prop := ∀ r ∈ b.recs, r.key.size ≤ reachBytes ∧ r.val.size ≤ reachBytes

set_option maxHeartbeats 1000000 in
theorem fewBatch_ct {k : PH} {b : Batch} {a : Option Addr} {c : Nat} (hl : Sl tRec k a c b.recs) (hsh : Short b) :
    CT Tryz.prog 72 #[.agg (b.cs a c).toArray] k (fun _ v => v = .bool (fewB b)) := by
  refine ct_of_body (l := [_]) Tryz.func72 rfl Tryz.ntmps72 (by simp) (fun _ _ _ _ h => h) fun F hF0 hFm => ?_
  have b1 := hl.cap; have b2 := hl.max; unfold maxLen at b2
  repeat (first | refine cg_seq ?_ | refine cg_region ?_)
  refine rb rfl rfl rfl rfl (a_box rfl rfl) ?_; intro b1' k1 hb1 hN1 hle1 hk1
  have c1 := cells_at (vs := b.cs a c) hk1 rfl
  obtain ⟨_, _, _, _, _, _, _, _, _, p9⟩ := Batch.parts c1
  repeat (first | refine cg_seq ?_ | refine cg_region ?_ | refine rg_nil ?_ | refine eg_then ?_ | refine qsp ?_ | refine qsn ?_ | refine qsl ?_ | refine qsf ?_ | refine cg_block ?_)
  refine cg_loop (fun (i : Nat) e k' => Le k1 k' ∧ i ≤ b.recs.length ∧ bytesR (b.recs.take i) ≤ 20000 ∧ ∃ m : Int, m = (bytesR (b.recs.take i) : Int) ∧ e = [(1, .is (.pointer (some ⟨b1', 0, none⟩))), (3, .is (.int .i64 m)), (7, .is (.slice a b.recs.length c)), (8, .is (.int .i64 (b.recs.length : Int))), (9, .is (.int .i64 (i : Int)))])
    (fun i => b.recs.length - i) 0 ⟨Le.refl _, Nat.zero_le _, by simp [bytesR], 0, by simp [bytesR], rfl⟩ ⟨rfl, rfl, rfl, rfl, rfl, trivial⟩ ?_
  rintro i e k2 ⟨hle, hi, hno, m, hm, rfl⟩
  repeat (first | refine cg_seq ?_ | refine cg_region ?_ | refine rg_nil ?_ | refine eg_then ?_ | refine qsp ?_)
  refine cg_cond rfl (fun h => ?_) (fun h => ?_)
  · have hlt : i < b.recs.length := by simpa using h
    obtain ⟨bx, ox, cx, rfl, ⟨rfl, hok⟩, hcx⟩ := (hl.le (hle1.trans hle)).el i b.recs[i] (List.getElem?_eq_getElem hlt)
    obtain ⟨sh1, sh2⟩ := hsh b.recs[i] (List.getElem_mem hlt)
    unfold reachBytes at sh1 sh2
    have hs := bytesR_succ hlt
    repeat (first | refine cg_seq ?_ | refine cg_region ?_ | refine eg_then ?_ | refine qsi ?_ | refine qsg ?_ | refine cg_skip ?_ | refine cg_block ?_)
    refine rb rfl rfl rfl rfl (a_alloc rfl) ?_; intro b5 k5 hb5 hN5 hle5 hk5
    skip
    refine rw1 rfl rfl rfl rfl rfl rfl rfl hk5 rfl (.inl hN5) ?_ ?_; (simp [Tp.vs, Mark.vs, OpenT.vs, Gone.vs, Tx.cs, View.cs, Rec.vs, Batch.cs, Who.vs, Pl.vs, Told.vs, Fact.vs, Place.vs, Value.oneCell']); intro k6 ht6 hk6
    have c6 := cells_at (vs := b.recs[i].vs) hk6 rfl
    have hle6 : Le k2 k6 := ht6 k2 hle5 hb5
    obtain ⟨p0, p1, p2, p3, p4⟩ := Rec.parts c6
    repeat (first | refine cg_seq ?_ | refine cg_region ?_ | refine rg_nil ?_ | refine eg_then ?_ | refine qsp ?_ | refine qsl ?_ | refine qsf ?_)
    refine rs rfl rfl (loc_det rfl (d_len_str rfl rfl)) ?_
    repeat (first | refine qsl ?_ | refine qsf ?_)
    refine rs rfl rfl (loc_det rfl (d_len_str rfl rfl)) ?_
    repeat (first | refine cg_seq ?_ | refine cg_region ?_ | refine rg_nil ?_ | refine eg_then ?_ | refine qsp ?_ | refine qsa ?_)
    refine cg_cond rfl (fun h2 => ?_) (fun h2 => ?_)
    · repeat (first | refine cg_seq ?_ | refine cg_region ?_ | refine rg_nil ?_ | refine eg_then ?_ | refine qsp ?_ | refine cg_ret ?_ | refine eg_then_ret ?_ | refine eg_in_ret ?_)
      refine eg_return rfl rfl ?_
      have := bytesR_take b.recs (i + 1)
      have hgt : ¬ bytesR b.recs ≤ 20000 := by simp at h2; omega
      simp [fewB, hgt]
    · repeat (first | refine cg_region ?_ | refine rg_nil ?_ | refine eg_then ?_ | refine qsp ?_ | refine qsa ?_ | refine cg_skip ?_ | refine eg_in_normal ?_)
      refine eg_again (i + 1) _ ⟨hle.trans hle6, hlt, by simp at h2; omega, _, by rw [hs, hm]; push_cast; rfl, rfl⟩ (by omega) ⟨rfl, rfl, rfl, rfl, rfl, trivial⟩
  · have hil : i = b.recs.length := by simp at h; omega
    rw [hil, List.take_length] at hno
    have c2 := c1.le hle
    obtain ⟨_, _, _, _, _, _, _, _, _, q9⟩ := Batch.parts c2
    repeat (first | refine cg_seq ?_ | refine cg_region ?_ | refine rg_nil ?_ | refine eg_then ?_ | refine qsp ?_ | refine qsn ?_ | refine qsl ?_ | refine qsf ?_ | refine cg_ret ?_ | refine cg_exit ?_ | refine eg_then_exit ?_ | refine eg_in_exit ?_)
    refine eg_return rfl rfl ?_
    simp [fewB, hno]
    omega
set_option maxHeartbeats 1000000 in
theorem fewAll_ct {k : PH} {a : Option Addr} {c : Nat} {l : List Batch} (most : Int) (hl : Sl tBatch k a c l) (hsh : ∀ b ∈ l, Short b) :
    CT Tryz.prog 37 #[.slice a l.length c, .int .i64 most] k (fun _ v => v = .bool (l.all fewB && decide ((l.length : Int) ≤ most))) := by
  refine ct_of_body (l := [_, _]) Tryz.func37 rfl Tryz.ntmps37 (by simp) (fun _ _ _ _ h => h) fun F hF0 hFm => ?_
  have b1 := hl.cap; have b2 := hl.max; unfold maxLen at b2
  repeat (first | refine cg_seq ?_ | refine cg_region ?_ | refine rg_nil ?_ | refine eg_then ?_ | refine qsp ?_ | refine qsn ?_ | refine cg_block ?_)
  refine cg_loop (fun (i : Nat) e k' => Le k k' ∧ i ≤ l.length ∧ (∀ j, (h : j < l.length) → j < i → fewB l[j] = true) ∧ e = [(0, .is (.slice a l.length c)), (1, .is (.int .i64 most)), (7, .is (.slice a l.length c)), (8, .is (.int .i64 (l.length : Int))), (9, .is (.int .i64 (i : Int)))])
    (fun i => l.length - i) 0 ⟨Le.refl _, Nat.zero_le _, fun j _ hj => by omega, rfl⟩ ⟨rfl, rfl, rfl, rfl, rfl, trivial⟩ ?_
  rintro i e k2 ⟨hle, hi, hno, rfl⟩
  repeat (first | refine cg_seq ?_ | refine cg_region ?_ | refine rg_nil ?_ | refine eg_then ?_ | refine qsp ?_)
  refine cg_cond rfl (fun h => ?_) (fun h => ?_)
  · have hlt : i < l.length := by simpa using h
    obtain ⟨bx, ox, cx, rfl, ⟨ra, rc, rfl, hr, hok⟩, hcx⟩ := (hl.le hle).el i l[i] (List.getElem?_eq_getElem hlt)
    repeat (first | refine cg_seq ?_ | refine cg_region ?_ | refine eg_then ?_ | refine qsi ?_ | refine qsg ?_ | refine cg_skip ?_ | refine cg_block ?_)
    refine rb rfl rfl rfl rfl (a_alloc rfl) ?_; intro b5 k5 hb5 hN5 hle5 hk5
    skip
    refine rw1 rfl rfl rfl rfl rfl rfl rfl hk5 rfl (.inl hN5) ?_ ?_; (simp [Tp.vs, Mark.vs, OpenT.vs, Gone.vs, Tx.cs, View.cs, Rec.vs, Batch.cs, Who.vs, Pl.vs, Told.vs, Fact.vs, Place.vs, Value.oneCell']); intro k6 ht6 hk6
    have c6 := cells_at (vs := l[i].cs ra rc) hk6 rfl
    have hle6 : Le k2 k6 := ht6 k2 hle5 hb5
    repeat (first | refine cg_seq ?_ | refine cg_region ?_ | refine rg_nil ?_ | refine eg_then ?_ | refine qsg ?_)
    refine rs rfl rfl (loc_call_is rfl rfl rfl rfl (fewBatch_ct (hr.le hle6) (hsh _ (List.getElem_mem hlt)))) ?_
    repeat (first | refine rg_nil ?_ | refine eg_then ?_ | refine qsp ?_)
    cases q : fewB l[i]
    · repeat (first | refine cg_seq ?_ | refine cg_region ?_ | refine rg_nil ?_ | refine eg_then ?_ | refine qsp ?_ | refine cg_cond_true rfl ?_ | refine cg_ret ?_ | refine eg_then_ret ?_ | refine eg_in_ret ?_)
      refine eg_return rfl rfl ?_
      have : l.all fewB = false := by
        rw [List.all_eq_false]
        exact ⟨l[i], List.getElem_mem hlt, by simp [q]⟩
      simp [this]
    · repeat (first | refine cg_region ?_ | refine rg_nil ?_ | refine eg_then ?_ | refine qsp ?_ | refine qsa ?_ | refine cg_cond_false rfl ?_ | refine cg_skip ?_ | refine eg_in_normal ?_)
      refine eg_again (i + 1) _ ⟨hle.trans hle6, hlt, fun j hj hji => ?_, rfl⟩ (by omega) ⟨rfl, rfl, rfl, rfl, rfl, trivial⟩
      by_cases e : j = i
      · subst e; exact q
      · exact hno j hj (by omega)
  · have hil : i = l.length := by simp at h; omega
    repeat (first | refine cg_seq ?_ | refine cg_region ?_ | refine rg_nil ?_ | refine eg_then ?_ | refine qsp ?_ | refine qsn ?_ | refine cg_ret ?_ | refine cg_exit ?_ | refine eg_then_exit ?_ | refine eg_in_exit ?_)
    refine eg_return rfl rfl ?_
    have : l.all fewB = true := by
      rw [List.all_eq_true]
      intro x hx
      obtain ⟨j, hj, rfl⟩ := List.getElem_of_mem hx
      exact hno j hj (by omega)
    simp [this]

def showB (gone : List Gone) (to : Int) (b : Batch) : Bool := (decide (b.ctl = 0) && decide (b.last < to)) && !(gone.any (isP b))
theorem filter_take_succ {α : Type} {p : α → Bool} {l : List α} {i : Nat} (h : i < l.length) : (l.take (i + 1)).filter p = (l.take i).filter p ++ (if p l[i] then [l[i]] else []) := by
  rw [List.take_succ_eq_append_getElem h, List.filter_append]
  congr 1
  cases e : p l[i] <;> simp [e]
theorem filter_take_len {α : Type} (p : α → Bool) (l : List α) (i : Nat) : ((l.take i).filter p).length ≤ l.length := by
  refine Nat.le_trans (List.length_filter_le _ _) ?_
  rw [List.length_take]; omega

set_option maxHeartbeats 400000 in
theorem show11_ct {k : PH} (b : Batch) (a : Option Addr) (c : Nat) (g : Gone) {bt : Nat} (hb : Cells k bt 0 (b.cs a c)) :
    CT Tryz.prog 45 #[.agg g.vs.toArray, .pointer (some ⟨bt, 0, none⟩)] k (fun _ v => v = .bool (ofGone b g)) := by
  refine ct_of_body (l := [_, _]) Tryz.func45 rfl Tryz.ntmps45 (by simp) (fun _ _ _ _ h => h) fun F hF0 hFm => ?_
  repeat (first | refine cg_seq ?_ | refine cg_region ?_)
  refine rb rfl rfl rfl rfl (a_box rfl rfl) ?_; intro b2 k2 hb2 hN2 hle2 hk2
  have c2 := cells_at (vs := g.vs) hk2 rfl
  have hb := hb.le hle2
  repeat (first | refine cg_seq ?_ | refine cg_region ?_ | refine rg_nil ?_ | refine eg_then ?_ | refine qsp ?_ | refine qsg ?_)
  refine rs rfl rfl (loc_call_is rfl rfl rfl rfl (txnsOf_ct b a c g)) ?_
  repeat (first | refine rg_nil ?_ | refine eg_then ?_ | refine qsp ?_ | refine cg_ret ?_)
  exact eg_return rfl rfl rfl

set_option maxHeartbeats 400000 in
theorem show1_ct {k : PH} (b : Batch) (a : Option Addr) (c : Nat) {gone : List Gone} {a2 : Option Addr} {c2 pt pl : Nat} (to : Int) (hg : Sl tGone k a2 c2 gone) (ht : Cells k pt 0 [.int .i64 to]) (hl : Cells k pl 0 [.slice a2 gone.length c2]) :
    CT Tryz.prog 43 #[.agg (b.cs a c).toArray, .pointer (some ⟨pt, 0, none⟩), .pointer (some ⟨pl, 0, none⟩)] k (fun _ v => v = .bool (!showB gone to b)) := by
  refine ct_of_body (l := [_, _, _]) Tryz.func43 rfl Tryz.ntmps43 (by simp) (fun _ _ _ _ h => h) fun F hF0 hFm => ?_
  repeat (first | refine cg_seq ?_ | refine cg_region ?_)
  refine rb rfl rfl rfl rfl (a_box rfl rfl) ?_; intro b3 k3 hb3 hN3 hle3 hk3
  have c3 := cells_at (vs := b.cs a c) hk3 rfl
  obtain ⟨p0, p1, p2, p3, p4, p5, p6, p7, p8, p9⟩ := Batch.parts c3
  have ht := ht.le hle3
  have hl := hl.le hle3
  repeat (first | refine cg_seq ?_ | refine cg_region ?_ | refine rg_nil ?_ | refine eg_then ?_ | refine qsp ?_ | refine qsl ?_ | refine qsf ?_)
  cases q1 : (b.ctl != 0)
  rotate_left
  · repeat (first | refine rg_nil ?_ | refine eg_then ?_ | refine qsp ?_ | refine qso ?_ | refine cg_ret ?_)
    refine eg_return rfl rfl ?_
    simp at q1
    simp [showB, q1]
  simp at q1
  repeat (first | refine qsp ?_ | refine qsl ?_ | refine qsf ?_)
  cases q2 : decide (b.last ≥ to)
  rotate_left
  · repeat (first | refine rg_nil ?_ | refine eg_then ?_ | refine qsp ?_ | refine qso ?_ | refine cg_ret ?_)
    refine eg_return rfl rfl ?_
    simp at q2
    simp [showB, q1]; omega
  simp at q2
  repeat (first | refine qsp ?_ | refine qsl ?_)
  have hcall := containsFuncGone_ct (hg.le hle3) (g := 45) (cap := #[.pointer (some ⟨b3, 0, none⟩)]) (ofGone b) (fun m hm cm hcm => by
    obtain ⟨rfl, _⟩ := hcm
    exact show11_ct b a c m c3)
  refine rs rfl rfl (loc_call_is rfl rfl rfl rfl (hcall)) ?_
  repeat (first | refine rg_nil ?_ | refine eg_then ?_ | refine qsp ?_ | refine cg_ret ?_)
  refine eg_return rfl rfl ?_
  have : gone.any (ofGone b) = gone.any (isP b) := by
    congr 1
    funext g
    simp [isP, ofGone, q1]
  simp [showB, q1, q2, this]

set_option maxHeartbeats 400000 in
theorem show_ct {k : PH} {a a2 : Option Addr} {c c2 : Nat} {l : List Batch} {gone : List Gone} (to : Int) (hl : Sl tBatch k a c l) (hg : Sl tGone k a2 c2 gone) (hb : l.length ≤ 10000) :
    CT Tryz.prog 13 #[.slice a l.length c, .slice a2 gone.length c2, .int .i64 to] k (fun k' v => ∃ a' c', v = .slice a' (l.filter (showB gone to)).length c' ∧ Sl tBatch k' a' c' (l.filter (showB gone to))) := by
  refine ct_of_body (l := [_, _, _]) Tryz.func13 rfl Tryz.ntmps13 (by simp) (fun k k' v hle ⟨a, c, h1, h2⟩ => ⟨a, c, h1, h2.le hle⟩) fun F hF0 hFm => ?_
  have b1 := hl.cap; have b2 := hl.max; unfold maxLen at b2
  repeat (first | refine cg_seq ?_ | refine cg_region ?_)
  refine rb rfl rfl rfl rfl (a_box rfl rfl) ?_; intro b4 k4 hb4 hN4 hle4 hk4
  refine rb rfl rfl rfl rfl (a_box rfl rfl) ?_; intro b5 k5 hb5 hN5 hle5 hk5
  have c4 := (cells_at (vs := [.slice a2 gone.length c2]) hk4 rfl).le hle5
  have c5 := cells_at (vs := [.int .i64 to]) hk5 rfl
  have hle := hle4.trans hle5
  repeat (first | refine cg_seq ?_ | refine cg_region ?_ | refine rg_nil ?_ | refine eg_then ?_ | refine qsp ?_)
  refine rvn rfl rfl rfl rfl rfl rfl rfl (cloneBatch_ct (hl.le hle) (by omega)) ?_
  rintro N k6 v hN hnew hle6 ⟨css, hp, hrow⟩
  have hap := hrow.apart hnew
  repeat (first | refine qsp ?_)
  refine rcm rfl rfl rfl rfl rfl rfl rfl (deleteFuncBatch_ct (g := 43) (cap := #[.pointer (some ⟨b5, 0, none⟩), .pointer (some ⟨b4, 0, none⟩)]) (fun b => !showB gone to b) hrow hp hle6 hap (fun k0 hk0 x cm hcm => ?_)) (fun b hb => .inl (Nat.le_trans hN (hrow.block hb).1)) ?_
  · obtain ⟨ra, rc, rfl, _⟩ := hcm
    exact show1_ct x ra rc to (hg.le (hle.trans hk0)) (c5.le hk0) (c4.le hk0)
  rintro u k7 hk7 ⟨css', hrow', hp', hle', hap'⟩
  repeat (first | refine rg_nil ?_ | refine eg_then ?_ | refine qsp ?_ | refine cg_ret ?_)
  have hf : l.filter (fun x => !!showB gone to x) = l.filter (showB gone to) := by simp
  rw [hf] at hrow' hp'
  obtain ⟨a', c', rfl, hsl⟩ := Row.sls (T := tBatch) hrow' (hp'.le hle')
  exact eg_return rfl rfl ⟨a', c', rfl, hsl⟩
/-- May batches be, each behind the one ahead? -/
def RiseAt (l : List Batch) (i : Nat) (h : i < l.length) : Prop := chkB l[i] = 0 ∧ (0 < i → l[i - 1].last < l[i].base)
instance (l : List Batch) (i : Nat) (h : i < l.length) : Decidable (RiseAt l i h) := by unfold RiseAt; infer_instance
def Rising (l : List Batch) : Prop := ∀ i, (h : i < l.length) → RiseAt l i h
instance (l : List Batch) : Decidable (Rising l) := by unfold Rising; infer_instance
set_option maxHeartbeats 1000000 in
theorem rising_ct {k : PH} {a : Option Addr} {c : Nat} {l : List Batch} (hl : Sl tBatch k a c l) : CT Tryz.prog 24 #[.slice a l.length c] k (fun _ v => v = .bool (decide (Rising l))) := by
  refine ct_of_body (l := [_]) Tryz.func24 rfl Tryz.ntmps24 (by simp) (fun _ _ _ _ h => h) fun F hF0 hFm => ?_
  have b1 := hl.cap; have b2 := hl.max; unfold maxLen at b2
  repeat (first | refine cg_seq ?_ | refine cg_region ?_ | refine rg_nil ?_ | refine eg_then ?_ | refine qsp ?_ | refine cg_block ?_)
  refine cg_loop (fun (i : Nat) e k' => Le k k' ∧ i ≤ l.length ∧ (∀ j, (h : j < l.length) → j < i → RiseAt l j h) ∧ e = [(0, .is (.slice a l.length c)), (3, .is (.int .i64 (i : Int)))])
    (fun i => l.length - i) 0 ⟨Le.refl _, Nat.zero_le _, fun j _ hj => by omega, rfl⟩ ⟨rfl, rfl, trivial⟩ ?_
  rintro i e k1 ⟨hle, hi, hno, rfl⟩
  repeat (first | refine cg_seq ?_ | refine cg_region ?_ | refine rg_nil ?_ | refine eg_then ?_ | refine qsp ?_ | refine qsn ?_)
  refine cg_cond rfl (fun h => ?_) (fun h => ?_)
  · have hlt : i < l.length := by simpa using h
    obtain ⟨bx, ox, cx, rfl, ⟨ra, rc, rfl, hr, hok⟩, hcx⟩ := (hl.le hle).el i l[i] (List.getElem?_eq_getElem hlt)
    have bad : ¬ RiseAt l i hlt → Value.bool false = .bool (decide (Rising l)) := fun hb => by
      rw [decide_eq_false]
      exact fun ha => hb (ha i hlt)
    have good : RiseAt l i hlt → ∀ j, (h : j < l.length) → j < i + 1 → RiseAt l j h := fun hg j hj hji => by
      by_cases e : j = i
      · subst e; exact hg
      · exact hno j hj (by omega)
    have hl' := hl.le hle
    have hr := hr
    repeat (first | refine cg_seq ?_ | refine eg_then ?_ | refine cg_skip ?_ | refine cg_block ?_)
    refine cg_any (by kernel_rfl) rfl ?_
    repeat (first | refine qwp ?_ | refine qwi ?_ | refine qwg ?_)
    refine ws rfl (loc_call_is rfl rfl rfl rfl (refChk_ct hr hok)) ?_
    obtain ⟨p0, p1, p2, p3, p4, p5, p6, p7, p8, p9⟩ := Batch.parts hcx
    repeat (first | refine qwp ?_)
    cases q1 : (chkB l[i] != 0)
    rotate_left
    · repeat (first | refine qwp ?_ | refine qwo ?_ | (refine wn rfl ?_; refine eg_then ?_))
      repeat (first | refine cg_seq ?_ | refine cg_region ?_ | refine rg_nil ?_ | refine eg_then ?_ | refine qsp ?_ | refine cg_cond_true rfl ?_ | refine cg_ret ?_ | refine eg_then_ret ?_ | refine eg_in_ret ?_)
      exact eg_return rfl rfl (bad (fun hm => by have := hm.1; simp [this] at q1))
    have q1' : chkB l[i] = 0 := by simpa using q1
    repeat (first | refine qwp ?_)
    cases q7 : decide ((i : Int) > 0)
    · repeat (first | refine qwp ?_ | refine qwo ?_ | (refine wn rfl ?_; refine eg_then ?_))
      repeat (first | refine cg_region ?_ | refine rg_nil ?_ | refine eg_then ?_ | refine qsp ?_ | refine qsa ?_ | refine cg_cond_false rfl ?_ | refine cg_skip ?_ | refine eg_in_normal ?_)
      exact eg_again (i + 1) _ ⟨hle, hlt, good ⟨q1', fun h => by simp at q7; omega⟩, rfl⟩ (by omega) ⟨rfl, rfl, trivial⟩
    have hi0 : 0 < i := by simp at q7; omega
    have hlt' : i - 1 < l.length := by omega
    obtain ⟨by', oy, cy, ey, ⟨d0, e0, rfl, _, hok'⟩, hcy⟩ := hl'.el (i - 1) l[i - 1] (List.getElem?_eq_getElem hlt')
    cases ey
    obtain ⟨s0, s1, s2, s3, s4, s5, s6, s7, s8, s9⟩ := Batch.parts hcy
    have hsub : ((i - 1 : Nat) : Int) = (i : Int) - 1 := by omega
    repeat (first | refine qwp ?_ | refine qws ?_ | refine qwi ?_ | refine qwl ?_ | refine qwf ?_)
    rw [← hsub]
    repeat (first | refine qwp ?_ | refine qwi ?_ | refine qwl ?_ | refine qwf ?_ | (refine wn rfl ?_; refine eg_then ?_))
    cases q8 : decide (l[i].base ≤ l[i - 1].last)
    rotate_left
    · skip
      repeat (first | refine cg_seq ?_ | refine cg_region ?_ | refine rg_nil ?_ | refine eg_then ?_ | refine qsp ?_ | refine cg_cond_true rfl ?_ | refine cg_ret ?_ | refine eg_then_ret ?_ | refine eg_in_ret ?_)
      exact eg_return rfl rfl (bad (fun hm => by have := hm.2 hi0; simp at q8; omega))
    · skip
      repeat (first | refine cg_region ?_ | refine rg_nil ?_ | refine eg_then ?_ | refine qsp ?_ | refine qsa ?_ | refine cg_cond_false rfl ?_ | refine cg_skip ?_ | refine eg_in_normal ?_)
      exact eg_again (i + 1) _ ⟨hle, hlt, good ⟨q1', fun _ => by simp at q8; omega⟩, rfl⟩ (by omega) ⟨rfl, rfl, trivial⟩
  · repeat (first | refine cg_seq ?_ | refine cg_region ?_ | refine rg_nil ?_ | refine eg_then ?_ | refine qsp ?_ | refine cg_ret ?_ | refine cg_exit ?_ | refine eg_then_exit ?_ | refine eg_in_exit ?_)
    refine eg_return rfl rfl ?_
    have hin : i = l.length := by simp at h; omega
    rw [decide_eq_true]
    exact fun j hj => hno j hj (by omega)
end Go.Wm

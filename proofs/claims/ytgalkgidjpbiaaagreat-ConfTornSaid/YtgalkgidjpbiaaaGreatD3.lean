/-
  What the steps do at a topic's place, the program's. Conditions: that what is handed in reads as data.
-/
import Derived.Test.YtgalkgidjpbiaaaGreatD2
import Derived.Test.YtgalkgidjpbiaaaGreatMn2
set_option linter.all false
namespace Go.Wm
open Go.RowKit Go.Proofs
attribute [local irreducible] RG CG EG WA Loc Det Alc CT Exit.then Exit.inBlock Code.wp bodyPost
set_option maxHeartbeats 1000000 in
theorem indexFuncRule_ct {k : PH} {a : Option Addr} {c : Nat} {l : List Rule} (hl : Sl tRule k a c l) {g : FuncId} [FnOk Tryz.prog g] {cap : Array Value} (f : Rule → Bool)
    (hf : ∀ m ∈ l, ∀ cm, tRule.rep k cm m → CT Tryz.prog g (#[] ++ [.agg cm.toArray].toArray ++ cap) k (fun _ v => v = .bool (f m))) :
    CT Tryz.prog 208 #[.slice a l.length c, .func (.func g) #[] cap] k (fun _ v => v = .int .i64 (idxF l f)) := by
  refine ct_of_body (l := [_, _]) Tryz.func208 rfl Tryz.ntmps208 (by simp) (fun _ _ _ _ h => h) fun F hF0 hFm => ?_
  have b1 := hl.cap; have b2 := hl.max; unfold maxLen at b2
  repeat (first | refine cg_seq ?_ | refine cg_region ?_ | refine rg_nil ?_ | refine eg_then ?_ | refine qsp ?_ | refine qsn ?_ | refine cg_block ?_)
  refine cg_loop (fun (i : Nat) e k' => k' = k ∧ i ≤ l.length ∧ (∀ x ∈ l.take i, f x = false) ∧ e = [(0, .is (.slice a l.length c)), (1, .is (.func (.func g) #[] cap)), (7, .is (.int .i64 (l.length : Int))), (8, .is (.int .i64 (i : Int)))])
    (fun i => l.length - i) 0 ⟨rfl, Nat.zero_le _, by simp, rfl⟩ ⟨rfl, rfl, rfl, rfl, trivial⟩ ?_
  rintro i e k1 ⟨rfl, hi, hno, rfl⟩
  repeat (first | refine cg_seq ?_ | refine cg_region ?_ | refine rg_nil ?_ | refine eg_then ?_ | refine qsp ?_)
  refine cg_cond rfl (fun h => ?_) (fun h => ?_)
  · have hlt : i < l.length := by simpa using h
    obtain ⟨bx, ox, cx, rfl, hrep, hcx⟩ := hl.el i l[i] (List.getElem?_eq_getElem hlt)
    have hcl := tRule.len hrep
    have hcall := hf l[i] (List.getElem_mem hlt) cx hrep
    repeat (first | refine cg_seq ?_ | refine cg_region ?_ | refine rg_nil ?_ | refine eg_then ?_ | refine qsp ?_ | refine qsi ?_ | refine cg_skip ?_ | refine cg_block ?_)
    refine rs rfl rfl (loc_det rfl (d_load_agg (vs := cx) rfl rfl rfl hcl hcx)) ?_
    refine rs rfl rfl (loc_call_is rfl rfl rfl rfl (hcall)) ?_
    repeat (first | refine rg_nil ?_ | refine eg_then ?_)
    by_cases hw : f l[i] = true
    · refine cg_cond_true (by simp [opv, get, Nat.beq, hw]) ?_
      repeat (first | refine cg_seq ?_ | refine cg_region ?_ | refine rg_nil ?_ | refine eg_then ?_ | refine qsp ?_ | refine cg_ret ?_ | refine eg_then_ret ?_ | refine eg_in_ret ?_)
      refine eg_return rfl rfl ?_
      rw [idxF_at hlt hw hno]
    · refine cg_cond_false (by simp [opv, get, Nat.beq, hw]) ?_
      repeat (first | refine cg_region ?_ | refine rg_nil ?_ | refine eg_then ?_ | refine qsp ?_ | refine qsa ?_ | refine cg_skip ?_ | refine eg_in_normal ?_)
      refine eg_again (i + 1) _ ⟨rfl, hlt, fun x hx => ?_, rfl⟩ (by omega) ⟨rfl, rfl, rfl, rfl, trivial⟩
      rw [List.take_succ_eq_append_getElem hlt] at hx
      rcases List.mem_append.1 hx with hx | hx
      · exact hno x hx
      · simp at hx; rw [hx]; simpa using hw
  · repeat (first | refine cg_seq ?_ | refine cg_region ?_ | refine rg_nil ?_ | refine eg_then ?_ | refine qsp ?_ | refine cg_ret ?_ | refine cg_exit ?_ | refine eg_then_exit ?_ | refine eg_in_exit ?_)
    refine eg_return rfl rfl ?_
    have : i = l.length := by simp at h; omega
    rw [this, List.take_length] at hno
    rw [idxF_no hno]

set_option maxHeartbeats 1000000 in
theorem indexFuncWay_ct {k : PH} {a : Option Addr} {c : Nat} {l : List Way} (hl : Sl tWay k a c l) {g : FuncId} [FnOk Tryz.prog g] {cap : Array Value} (f : Way → Bool)
    (hf : ∀ m ∈ l, ∀ cm, tWay.rep k cm m → CT Tryz.prog g (#[] ++ [.agg cm.toArray].toArray ++ cap) k (fun _ v => v = .bool (f m))) :
    CT Tryz.prog 209 #[.slice a l.length c, .func (.func g) #[] cap] k (fun _ v => v = .int .i64 (idxF l f)) := by
  refine ct_of_body (l := [_, _]) Tryz.func209 rfl Tryz.ntmps209 (by simp) (fun _ _ _ _ h => h) fun F hF0 hFm => ?_
  have b1 := hl.cap; have b2 := hl.max; unfold maxLen at b2
  repeat (first | refine cg_seq ?_ | refine cg_region ?_ | refine rg_nil ?_ | refine eg_then ?_ | refine qsp ?_ | refine qsn ?_ | refine cg_block ?_)
  refine cg_loop (fun (i : Nat) e k' => k' = k ∧ i ≤ l.length ∧ (∀ x ∈ l.take i, f x = false) ∧ e = [(0, .is (.slice a l.length c)), (1, .is (.func (.func g) #[] cap)), (7, .is (.int .i64 (l.length : Int))), (8, .is (.int .i64 (i : Int)))])
    (fun i => l.length - i) 0 ⟨rfl, Nat.zero_le _, by simp, rfl⟩ ⟨rfl, rfl, rfl, rfl, trivial⟩ ?_
  rintro i e k1 ⟨rfl, hi, hno, rfl⟩
  repeat (first | refine cg_seq ?_ | refine cg_region ?_ | refine rg_nil ?_ | refine eg_then ?_ | refine qsp ?_)
  refine cg_cond rfl (fun h => ?_) (fun h => ?_)
  · have hlt : i < l.length := by simpa using h
    obtain ⟨bx, ox, cx, rfl, hrep, hcx⟩ := hl.el i l[i] (List.getElem?_eq_getElem hlt)
    have hcl := tWay.len hrep
    have hcall := hf l[i] (List.getElem_mem hlt) cx hrep
    repeat (first | refine cg_seq ?_ | refine cg_region ?_ | refine rg_nil ?_ | refine eg_then ?_ | refine qsp ?_ | refine qsi ?_ | refine cg_skip ?_ | refine cg_block ?_)
    refine rs rfl rfl (loc_det rfl (d_load_agg (vs := cx) rfl rfl rfl hcl hcx)) ?_
    refine rs rfl rfl (loc_call_is rfl rfl rfl rfl (hcall)) ?_
    repeat (first | refine rg_nil ?_ | refine eg_then ?_)
    by_cases hw : f l[i] = true
    · refine cg_cond_true (by simp [opv, get, Nat.beq, hw]) ?_
      repeat (first | refine cg_seq ?_ | refine cg_region ?_ | refine rg_nil ?_ | refine eg_then ?_ | refine qsp ?_ | refine cg_ret ?_ | refine eg_then_ret ?_ | refine eg_in_ret ?_)
      refine eg_return rfl rfl ?_
      rw [idxF_at hlt hw hno]
    · refine cg_cond_false (by simp [opv, get, Nat.beq, hw]) ?_
      repeat (first | refine cg_region ?_ | refine rg_nil ?_ | refine eg_then ?_ | refine qsp ?_ | refine qsa ?_ | refine cg_skip ?_ | refine eg_in_normal ?_)
      refine eg_again (i + 1) _ ⟨rfl, hlt, fun x hx => ?_, rfl⟩ (by omega) ⟨rfl, rfl, rfl, rfl, trivial⟩
      rw [List.take_succ_eq_append_getElem hlt] at hx
      rcases List.mem_append.1 hx with hx | hx
      · exact hno x hx
      · simp at hx; rw [hx]; simpa using hw
  · repeat (first | refine cg_seq ?_ | refine cg_region ?_ | refine rg_nil ?_ | refine eg_then ?_ | refine qsp ?_ | refine cg_ret ?_ | refine cg_exit ?_ | refine eg_then_exit ?_ | refine eg_in_exit ?_)
    refine eg_return rfl rfl ?_
    have : i = l.length := by simp at h; omega
    rw [this, List.take_length] at hno
    rw [idxF_no hno]

set_option maxHeartbeats 2000000 in
theorem deleteFuncRule_ct {N : Nat} {h k : PH} {v : Value} {css : List (List Value)} {l : List Rule} {g : FuncId} [FnOk Tryz.prog g] {cap : Array Value} (f : Rule → Bool) (hrow : Row N k 74 3 v l.length css.flatten) (hp : Pieces tRule h css l) (hle : Le h k) (hap : Apart h v)
    (hf : ∀ k0, Le h k0 → ∀ x cm, tRule.rep k0 cm x → CT Tryz.prog g (#[] ++ [.agg cm.toArray].toArray ++ cap) k0 (fun _ v => v = .bool (f x))) :
    CTM Tryz.prog 133 #[v, .func (.func g) #[] cap] k (fun b => v.ownBlock = some b) (fun k' u => ∃ css', Row N k' 74 3 u (l.filter fun x => !f x).length css'.flatten ∧ Pieces tRule h css' (l.filter fun x => !f x) ∧ Le h k' ∧ Apart h u) := by
  refine ctm_of_body (l := [_, _]) Tryz.func133 rfl Tryz.ntmps133 (by simp) fun F hF0 hFm hlt0 => ?_
  obtain ⟨a, c, rfl, hsl⟩ := Row.sls hrow (hp.le hle)
  have b1 := hsl.cap; have b2 := hsl.max; unfold maxLen at b2
  have hidx := indexFuncRule_ct hsl f (fun m hm cm hcm => hf k hle m cm hcm)
  repeat (first | refine cg_seq ?_ | refine cg_region ?_ | refine rg_nil ?_ | refine eg_then ?_ | refine qsp ?_)
  refine rs rfl rfl (loc_call_is rfl rfl rfl rfl (hidx)) ?_
  repeat (first | refine cg_seq ?_ | refine cg_region ?_ | refine rg_nil ?_ | refine eg_then ?_ | refine qsp ?_)
  rcases idxF_cases l f with ⟨hx, hno⟩ | ⟨i0, hi0, hx, hyes, hno⟩
  · rw [hx]
    repeat (first | refine cg_seq ?_ | refine cg_region ?_ | refine rg_nil ?_ | refine eg_then ?_ | refine qsp ?_ | refine cg_cond_true rfl ?_ | refine cg_ret ?_ | refine eg_then_ret ?_)
    refine eg_return rfl rfl ⟨css, ?_⟩
    have : l.filter (fun x => !f x) = l := List.filter_eq_self.2 fun x hx => by rw [hno x hx]; rfl
    rw [this]
    exact ⟨hrow, hp, hle, hap⟩
  · rw [hx]
    have hcl0 : ∀ y ∈ css, y.length = 3 := hp.len
    have hcll : css.length = l.length := hp.1
    obtain ⟨g0, cap0, cur0, hv0, hN0, hg0, _⟩ : ∃ g cap cur, Value.slice a l.length c = .slice (some ⟨g, 0, none⟩) l.length cap ∧ N ≤ g ∧ k g = some (.cells cur 74 (0, 0)) ∧ True := by
      obtain ⟨g, cap, cur, e1, e2, e3, _⟩ := hrow.el (i := i0) hcl0 (List.getElem?_eq_getElem (by omega)) (by decide)
      exact ⟨g, cap, cur, e1, e2, e3, trivial⟩
    simp only [Value.slice.injEq, true_and] at hv0
    obtain ⟨rfl, rfl⟩ := hv0
    have hmu : F.mu g0 := by rw [hFm]; rfl
    have hh0 : h g0 = none := hap g0 rfl
    have hlt := hlt0 g0 _ hg0
    have tk : ∀ j, (hj : j < l.length) → (l.take (j + 1)).filter (fun x => !f x) = (l.take j).filter (fun x => !f x) ++ (if f l[j] then [] else [l[j]]) := fun j hj => by
      rw [List.take_succ_eq_append_getElem hj, List.filter_append]
      congr 1
      cases e : f l[j] <;> simp [e]
    have e1 : (l.take (i0 + 1)).filter (fun x => !f x) = l.take i0 := by
      rw [tk i0 hi0, hyes]
      simp
      exact fun x hx => by simpa using hno x hx
    have e2 : (l.take i0).length = i0 := by rw [List.length_take]; omega
    repeat (first | refine cg_seq ?_ | refine cg_region ?_ | refine rg_nil ?_ | refine eg_then ?_ | refine qsp ?_ | refine qsa ?_ | refine cg_cond_false rfl ?_ | refine cg_skip ?_ | refine cg_block ?_)
    refine cg_loop (fun (j : Nat) e k' => ∃ cs', (∀ y ∈ cs', y.length = 3) ∧ cs'.length = l.length ∧ Row N k' 74 3 (.slice (some ⟨g0, 0, none⟩) l.length c) l.length cs'.flatten ∧ Pieces tRule h (cs'.take ((l.take j).filter fun x => !f x).length) ((l.take j).filter fun x => !f x) ∧ (∀ q, j ≤ q → cs'[q]? = css[q]?) ∧ Le h k' ∧ ((l.take j).filter fun x => !f x).length < j ∧ j ≤ l.length ∧
        e = [(0, .is (.slice (some ⟨g0, 0, none⟩) l.length c)), (1, .is (.func (.func g) #[] cap)), (5, .is (.int .i64 (((l.take j).filter fun x => !f x).length : Nat))), (6, .is (.int .i64 (j : Int)))])
      (fun j => l.length - j) (i0 + 1) ⟨css, hcl0, hcll, hrow, ?_, fun _ _ => rfl, hle, ?_, hi0, rfl⟩ ⟨rfl, rfl, ?_, rfl, trivial⟩ ?_
    · rw [e1, e2]
      refine ⟨by simp; omega, fun q cs x h1 h2 => ?_⟩
      rw [List.getElem?_take] at h1 h2
      split at h1
      · rename_i hq
        rw [if_pos hq] at h2
        exact hp.2 q cs x h1 h2
      · cases h1
    · rw [e1, e2]; omega
    · rw [e1, e2]; rfl
    · rintro j e k1 ⟨cs', hal, hcl, hrow1, hp1, hq1, hle1, hij, hj, rfl⟩
      obtain ⟨m, hm⟩ : ∃ m, ((l.take j).filter fun x => !f x).length = m := ⟨_, rfl⟩
      rw [hm] at hp1 hij ⊢
      repeat (first | refine cg_seq ?_ | refine cg_region ?_ | refine rg_nil ?_ | refine eg_then ?_ | refine qsp ?_ | refine qsn ?_)
      refine cg_cond rfl (fun hc => ?_) (fun hc => ?_)
      · have hlj : j < l.length := by simpa using hc
        obtain ⟨x, hxj⟩ : ∃ x, l[j] = x := ⟨_, rfl⟩
        have htk := tk j hlj
        rw [hxj] at htk
        have hcj : cs'[j]? = some css[j] := by rw [hq1 j (Nat.le_refl _)]; exact List.getElem?_eq_getElem (by omega)
        have hrep := hp.2 j _ x (List.getElem?_eq_getElem (by omega)) (by rw [List.getElem?_eq_getElem hlj, hxj])
        obtain ⟨cx, hcx⟩ : ∃ cx, css[j] = cx := ⟨_, rfl⟩
        rw [hcx] at hcj hrep
        have hcxl := tRule.len hrep
        have hone := Rule.one h cx x hrep
        obtain ⟨g', cap', cur, hv1, hN1, hg1, _, hmc, _, hcel, _⟩ := hrow1.el hal hcj (by decide)
        simp only [Value.slice.injEq, true_and, Option.some.injEq, Addr.mk.injEq, and_true] at hv1
        obtain ⟨rfl, rfl⟩ := hv1
        repeat (first | refine cg_seq ?_ | refine cg_region ?_ | refine eg_then ?_ | refine qsp ?_ | refine qsi ?_ | refine cg_skip ?_ | refine cg_block ?_)
        refine rs rfl rfl (loc_det rfl (d_load_agg (vs := cx) rfl rfl rfl hcxl hcel)) ?_
        refine rb rfl rfl rfl rfl (a_alloc rfl) ?_; intro b7 k7 hb7 hN7 hle7 hk7
        refine rw1 rfl rfl rfl rfl rfl rfl hcxl hk7 (by rw [hcxl]; rfl) (.inl hN7) hone ?_
        intro k8 ht8 hk8
        have c8 := cells_at (vs := cx) hk8 rfl
        have hle8 : Le k1 k8 := ht8 k1 hle7 hb7
        have n7 := some_ne hg1 hb7
        have hcall := hf k8 (hle1.trans hle8) x cx (tRule.mono (hle1.trans hle8) hrep)
        repeat (first | refine cg_seq ?_ | refine cg_region ?_ | refine rg_nil ?_ | refine eg_then ?_ | refine qsp ?_)
        refine rs rfl rfl (loc_det rfl (d_load_agg (vs := cx) rfl rfl rfl hcxl c8)) ?_
        refine rs rfl rfl (loc_call_is rfl rfl rfl rfl (hcall)) ?_
        repeat (first | refine rg_nil ?_ | refine eg_then ?_ | refine qsp ?_)
        have hml : m < l.length := by omega
        cases hfx : f x
        · rw [hfx] at htk
          simp only [Bool.false_eq_true, if_false] at htk
          have hcm : cs'[m]? = some cs'[m] := List.getElem?_eq_getElem (by omega)
          obtain ⟨g', cap', cur2, hv1, hN2, hg2, _, _, hsz2, _, hset⟩ := (hrow1.le hle8).el hal hcm (by decide)
          simp only [Value.slice.injEq, true_and, Option.some.injEq, Addr.mk.injEq, and_true] at hv1
          obtain ⟨rfl, rfl⟩ := hv1
          repeat (first | refine cg_seq ?_ | refine cg_region ?_ | refine qsp ?_ | refine cg_cond_true rfl ?_)
          refine rs rfl rfl (loc_det rfl (d_load_agg (vs := cx) rfl rfl rfl hcxl c8)) ?_
          refine rs rfl rfl (loc_det rfl (d_idx rfl rfl rfl hml)) ?_
          refine rst_agg rfl rfl rfl rfl rfl rfl hone hcxl hg2 (by rw [hcxl]; exact hsz2) (.inr hmu) ?_
          have hrow9 := hset _ cx hcxl (upd_same k8 g0 (.cells (cur2.toList.take (0 + m * 3) ++ cx ++ cur2.toList.drop (0 + m * 3 + cx.length)).toArray 74 (0, 0)))
          have hle9 := (hle1.trans hle8).upd (b := g0) (o := (.cells (cur2.toList.take (0 + m * 3) ++ cx ++ cur2.toList.drop (0 + m * 3 + cx.length)).toArray 74 (0, 0))) hh0
          generalize upd k8 g0 (.cells (cur2.toList.take (0 + m * 3) ++ cx ++ cur2.toList.drop (0 + m * 3 + cx.length)).toArray 74 (0, 0)) = k9 at hrow9 hle9 ⊢
          repeat (first | refine cg_region ?_ | refine rg_nil ?_ | refine eg_then ?_ | refine qsp ?_ | refine qsa ?_ | refine eg_in_normal ?_)
          have htl : ((l.take (j + 1)).filter fun x => !f x).length = m + 1 := by rw [htk, List.length_append, hm]; rfl
          have hst : (cs'.set m cx).take (m + 1) = cs'.take m ++ [cx] := by
            rw [List.take_succ_eq_append_getElem (by simp; omega), List.take_set_of_le (Nat.le_refl _)]
            simp
          refine eg_again (j + 1) _ ⟨cs'.set m cx, ?_, by simp [hcl], hrow9, ?_, ?_, hle9, by omega, hlj, rfl⟩ (by omega) ⟨rfl, rfl, ?_, rfl, trivial⟩
          · intro y hy
            rcases List.mem_or_eq_of_mem_set hy with hy | rfl
            · exact hal y hy
            · exact hcxl
          · rw [htl, hst, htk]
            exact hp1.append (Pieces.one hrep)
          · intro q hq
            rw [List.getElem?_set_ne (by omega)]
            exact hq1 q (by omega)
          · rw [htl]; rfl
        · rw [hfx] at htk
          simp only [if_true, List.append_nil] at htk
          repeat (first | refine cg_region ?_ | refine rg_nil ?_ | refine eg_then ?_ | refine qsp ?_ | refine qsa ?_ | refine cg_cond_false rfl ?_ | refine cg_skip ?_ | refine eg_in_normal ?_)
          refine eg_again (j + 1) _ ⟨cs', hal, hcl, hrow1.le hle8, by rw [htk, hm]; exact hp1, fun q hq => hq1 q (by omega), hle1.trans hle8, by rw [htk, hm]; omega, hlj, rfl⟩ (by omega) ⟨rfl, rfl, ?_, rfl, trivial⟩
          rw [htk, hm]; rfl
      · have hje : j = l.length := by simp at hc; omega
        subst hje
        rw [List.take_length] at hm hp1
        have hml : m ≤ l.length := by omega
        obtain ⟨_, hrow1'⟩ := hrow1.own.resolve_left (by simp)
        obtain ⟨cap', cur, hv1, hN1, hg1, hmc, hmx, hcs, htk⟩ := hrow1'
        simp only [Value.slice.injEq, true_and, Option.some.injEq, Addr.mk.injEq, and_true] at hv1
        obtain ⟨rfl, rfl⟩ := hv1
        repeat (first | refine cg_seq ?_ | refine cg_region ?_ | refine eg_then ?_ | refine qsp ?_ | refine cg_exit ?_ | refine eg_then_exit ?_ | refine eg_in_exit ?_)
        refine rs rfl rfl (loc_det rfl (d_suf_row rfl rfl rfl hml hmc)) ?_
        refine r_clear (i := m) (m := l.length) (cap := c) rfl rfl rfl rfl rfl hml hmc hg1 hcs rfl (by decide) (.inr hmu) ?_
        intro k2 cur2 ht2 hk2 hs2 htk2
        repeat (first | refine cg_seq ?_ | refine cg_region ?_ | refine rg_nil ?_ | refine eg_then ?_ | refine qsp ?_)
        refine rs rfl rfl (loc_det rfl (d_pre_row rfl rfl rfl hml hmc)) ?_
        repeat (first | refine rg_nil ?_ | refine eg_then ?_ | refine qsp ?_ | refine cg_ret ?_)
        refine eg_return rfl rfl ⟨cs'.take m, ?_, by rw [← hm] at hp1 ⊢; exact hp1, ht2 h hle1 hh0, fun g hg => by simp [Value.ownBlock] at hg; subst hg; exact hh0⟩
        have hle3 : m * 3 ≤ l.length * 3 := Nat.mul_le_mul_right _ hml
        rw [hm]
        refine ⟨?_, .inr ⟨g0, c, cur2, rfl, hN1, hk2, by omega, hmx, hs2.trans hcs, ?_⟩⟩
        · rw [flat_len _ (fun y hy => hal y (List.mem_of_mem_take hy)), List.length_take, hcl, Nat.min_eq_left hml]
        · rw [htk2, flat_take cs' m hal, ← htk, List.take_take, Nat.min_eq_left hle3]

set_option maxHeartbeats 2000000 in
theorem deleteFuncWay_ct {N : Nat} {h k : PH} {v : Value} {css : List (List Value)} {l : List Way} {g : FuncId} [FnOk Tryz.prog g] {cap : Array Value} (f : Way → Bool) (hrow : Row N k 78 3 v l.length css.flatten) (hp : Pieces tWay h css l) (hle : Le h k) (hap : Apart h v)
    (hf : ∀ k0, Le h k0 → ∀ x cm, tWay.rep k0 cm x → CT Tryz.prog g (#[] ++ [.agg cm.toArray].toArray ++ cap) k0 (fun _ v => v = .bool (f x))) :
    CTM Tryz.prog 135 #[v, .func (.func g) #[] cap] k (fun b => v.ownBlock = some b) (fun k' u => ∃ css', Row N k' 78 3 u (l.filter fun x => !f x).length css'.flatten ∧ Pieces tWay h css' (l.filter fun x => !f x) ∧ Le h k' ∧ Apart h u) := by
  refine ctm_of_body (l := [_, _]) Tryz.func135 rfl Tryz.ntmps135 (by simp) fun F hF0 hFm hlt0 => ?_
  obtain ⟨a, c, rfl, hsl⟩ := Row.sls hrow (hp.le hle)
  have b1 := hsl.cap; have b2 := hsl.max; unfold maxLen at b2
  have hidx := indexFuncWay_ct hsl f (fun m hm cm hcm => hf k hle m cm hcm)
  repeat (first | refine cg_seq ?_ | refine cg_region ?_ | refine rg_nil ?_ | refine eg_then ?_ | refine qsp ?_)
  refine rs rfl rfl (loc_call_is rfl rfl rfl rfl (hidx)) ?_
  repeat (first | refine cg_seq ?_ | refine cg_region ?_ | refine rg_nil ?_ | refine eg_then ?_ | refine qsp ?_)
  rcases idxF_cases l f with ⟨hx, hno⟩ | ⟨i0, hi0, hx, hyes, hno⟩
  · rw [hx]
    repeat (first | refine cg_seq ?_ | refine cg_region ?_ | refine rg_nil ?_ | refine eg_then ?_ | refine qsp ?_ | refine cg_cond_true rfl ?_ | refine cg_ret ?_ | refine eg_then_ret ?_)
    refine eg_return rfl rfl ⟨css, ?_⟩
    have : l.filter (fun x => !f x) = l := List.filter_eq_self.2 fun x hx => by rw [hno x hx]; rfl
    rw [this]
    exact ⟨hrow, hp, hle, hap⟩
  · rw [hx]
    have hcl0 : ∀ y ∈ css, y.length = 3 := hp.len
    have hcll : css.length = l.length := hp.1
    obtain ⟨g0, cap0, cur0, hv0, hN0, hg0, _⟩ : ∃ g cap cur, Value.slice a l.length c = .slice (some ⟨g, 0, none⟩) l.length cap ∧ N ≤ g ∧ k g = some (.cells cur 78 (0, 0)) ∧ True := by
      obtain ⟨g, cap, cur, e1, e2, e3, _⟩ := hrow.el (i := i0) hcl0 (List.getElem?_eq_getElem (by omega)) (by decide)
      exact ⟨g, cap, cur, e1, e2, e3, trivial⟩
    simp only [Value.slice.injEq, true_and] at hv0
    obtain ⟨rfl, rfl⟩ := hv0
    have hmu : F.mu g0 := by rw [hFm]; rfl
    have hh0 : h g0 = none := hap g0 rfl
    have hlt := hlt0 g0 _ hg0
    have tk : ∀ j, (hj : j < l.length) → (l.take (j + 1)).filter (fun x => !f x) = (l.take j).filter (fun x => !f x) ++ (if f l[j] then [] else [l[j]]) := fun j hj => by
      rw [List.take_succ_eq_append_getElem hj, List.filter_append]
      congr 1
      cases e : f l[j] <;> simp [e]
    have e1 : (l.take (i0 + 1)).filter (fun x => !f x) = l.take i0 := by
      rw [tk i0 hi0, hyes]
      simp
      exact fun x hx => by simpa using hno x hx
    have e2 : (l.take i0).length = i0 := by rw [List.length_take]; omega
    repeat (first | refine cg_seq ?_ | refine cg_region ?_ | refine rg_nil ?_ | refine eg_then ?_ | refine qsp ?_ | refine qsa ?_ | refine cg_cond_false rfl ?_ | refine cg_skip ?_ | refine cg_block ?_)
    refine cg_loop (fun (j : Nat) e k' => ∃ cs', (∀ y ∈ cs', y.length = 3) ∧ cs'.length = l.length ∧ Row N k' 78 3 (.slice (some ⟨g0, 0, none⟩) l.length c) l.length cs'.flatten ∧ Pieces tWay h (cs'.take ((l.take j).filter fun x => !f x).length) ((l.take j).filter fun x => !f x) ∧ (∀ q, j ≤ q → cs'[q]? = css[q]?) ∧ Le h k' ∧ ((l.take j).filter fun x => !f x).length < j ∧ j ≤ l.length ∧
        e = [(0, .is (.slice (some ⟨g0, 0, none⟩) l.length c)), (1, .is (.func (.func g) #[] cap)), (5, .is (.int .i64 (((l.take j).filter fun x => !f x).length : Nat))), (6, .is (.int .i64 (j : Int)))])
      (fun j => l.length - j) (i0 + 1) ⟨css, hcl0, hcll, hrow, ?_, fun _ _ => rfl, hle, ?_, hi0, rfl⟩ ⟨rfl, rfl, ?_, rfl, trivial⟩ ?_
    · rw [e1, e2]
      refine ⟨by simp; omega, fun q cs x h1 h2 => ?_⟩
      rw [List.getElem?_take] at h1 h2
      split at h1
      · rename_i hq
        rw [if_pos hq] at h2
        exact hp.2 q cs x h1 h2
      · cases h1
    · rw [e1, e2]; omega
    · rw [e1, e2]; rfl
    · rintro j e k1 ⟨cs', hal, hcl, hrow1, hp1, hq1, hle1, hij, hj, rfl⟩
      obtain ⟨m, hm⟩ : ∃ m, ((l.take j).filter fun x => !f x).length = m := ⟨_, rfl⟩
      rw [hm] at hp1 hij ⊢
      repeat (first | refine cg_seq ?_ | refine cg_region ?_ | refine rg_nil ?_ | refine eg_then ?_ | refine qsp ?_ | refine qsn ?_)
      refine cg_cond rfl (fun hc => ?_) (fun hc => ?_)
      · have hlj : j < l.length := by simpa using hc
        obtain ⟨x, hxj⟩ : ∃ x, l[j] = x := ⟨_, rfl⟩
        have htk := tk j hlj
        rw [hxj] at htk
        have hcj : cs'[j]? = some css[j] := by rw [hq1 j (Nat.le_refl _)]; exact List.getElem?_eq_getElem (by omega)
        have hrep := hp.2 j _ x (List.getElem?_eq_getElem (by omega)) (by rw [List.getElem?_eq_getElem hlj, hxj])
        obtain ⟨cx, hcx⟩ : ∃ cx, css[j] = cx := ⟨_, rfl⟩
        rw [hcx] at hcj hrep
        have hcxl := tWay.len hrep
        have hone := Way.one h cx x hrep
        obtain ⟨g', cap', cur, hv1, hN1, hg1, _, hmc, _, hcel, _⟩ := hrow1.el hal hcj (by decide)
        simp only [Value.slice.injEq, true_and, Option.some.injEq, Addr.mk.injEq, and_true] at hv1
        obtain ⟨rfl, rfl⟩ := hv1
        repeat (first | refine cg_seq ?_ | refine cg_region ?_ | refine eg_then ?_ | refine qsp ?_ | refine qsi ?_ | refine cg_skip ?_ | refine cg_block ?_)
        refine rs rfl rfl (loc_det rfl (d_load_agg (vs := cx) rfl rfl rfl hcxl hcel)) ?_
        refine rb rfl rfl rfl rfl (a_alloc rfl) ?_; intro b7 k7 hb7 hN7 hle7 hk7
        refine rw1 rfl rfl rfl rfl rfl rfl hcxl hk7 (by rw [hcxl]; rfl) (.inl hN7) hone ?_
        intro k8 ht8 hk8
        have c8 := cells_at (vs := cx) hk8 rfl
        have hle8 : Le k1 k8 := ht8 k1 hle7 hb7
        have n7 := some_ne hg1 hb7
        have hcall := hf k8 (hle1.trans hle8) x cx (tWay.mono (hle1.trans hle8) hrep)
        repeat (first | refine cg_seq ?_ | refine cg_region ?_ | refine rg_nil ?_ | refine eg_then ?_ | refine qsp ?_)
        refine rs rfl rfl (loc_det rfl (d_load_agg (vs := cx) rfl rfl rfl hcxl c8)) ?_
        refine rs rfl rfl (loc_call_is rfl rfl rfl rfl (hcall)) ?_
        repeat (first | refine rg_nil ?_ | refine eg_then ?_ | refine qsp ?_)
        have hml : m < l.length := by omega
        cases hfx : f x
        · rw [hfx] at htk
          simp only [Bool.false_eq_true, if_false] at htk
          have hcm : cs'[m]? = some cs'[m] := List.getElem?_eq_getElem (by omega)
          obtain ⟨g', cap', cur2, hv1, hN2, hg2, _, _, hsz2, _, hset⟩ := (hrow1.le hle8).el hal hcm (by decide)
          simp only [Value.slice.injEq, true_and, Option.some.injEq, Addr.mk.injEq, and_true] at hv1
          obtain ⟨rfl, rfl⟩ := hv1
          repeat (first | refine cg_seq ?_ | refine cg_region ?_ | refine qsp ?_ | refine cg_cond_true rfl ?_)
          refine rs rfl rfl (loc_det rfl (d_load_agg (vs := cx) rfl rfl rfl hcxl c8)) ?_
          refine rs rfl rfl (loc_det rfl (d_idx rfl rfl rfl hml)) ?_
          refine rst_agg rfl rfl rfl rfl rfl rfl hone hcxl hg2 (by rw [hcxl]; exact hsz2) (.inr hmu) ?_
          have hrow9 := hset _ cx hcxl (upd_same k8 g0 (.cells (cur2.toList.take (0 + m * 3) ++ cx ++ cur2.toList.drop (0 + m * 3 + cx.length)).toArray 78 (0, 0)))
          have hle9 := (hle1.trans hle8).upd (b := g0) (o := (.cells (cur2.toList.take (0 + m * 3) ++ cx ++ cur2.toList.drop (0 + m * 3 + cx.length)).toArray 78 (0, 0))) hh0
          generalize upd k8 g0 (.cells (cur2.toList.take (0 + m * 3) ++ cx ++ cur2.toList.drop (0 + m * 3 + cx.length)).toArray 78 (0, 0)) = k9 at hrow9 hle9 ⊢
          repeat (first | refine cg_region ?_ | refine rg_nil ?_ | refine eg_then ?_ | refine qsp ?_ | refine qsa ?_ | refine eg_in_normal ?_)
          have htl : ((l.take (j + 1)).filter fun x => !f x).length = m + 1 := by rw [htk, List.length_append, hm]; rfl
          have hst : (cs'.set m cx).take (m + 1) = cs'.take m ++ [cx] := by
            rw [List.take_succ_eq_append_getElem (by simp; omega), List.take_set_of_le (Nat.le_refl _)]
            simp
          refine eg_again (j + 1) _ ⟨cs'.set m cx, ?_, by simp [hcl], hrow9, ?_, ?_, hle9, by omega, hlj, rfl⟩ (by omega) ⟨rfl, rfl, ?_, rfl, trivial⟩
          · intro y hy
            rcases List.mem_or_eq_of_mem_set hy with hy | rfl
            · exact hal y hy
            · exact hcxl
          · rw [htl, hst, htk]
            exact hp1.append (Pieces.one hrep)
          · intro q hq
            rw [List.getElem?_set_ne (by omega)]
            exact hq1 q (by omega)
          · rw [htl]; rfl
        · rw [hfx] at htk
          simp only [if_true, List.append_nil] at htk
          repeat (first | refine cg_region ?_ | refine rg_nil ?_ | refine eg_then ?_ | refine qsp ?_ | refine qsa ?_ | refine cg_cond_false rfl ?_ | refine cg_skip ?_ | refine eg_in_normal ?_)
          refine eg_again (j + 1) _ ⟨cs', hal, hcl, hrow1.le hle8, by rw [htk, hm]; exact hp1, fun q hq => hq1 q (by omega), hle1.trans hle8, by rw [htk, hm]; omega, hlj, rfl⟩ (by omega) ⟨rfl, rfl, ?_, rfl, trivial⟩
          rw [htk, hm]; rfl
      · have hje : j = l.length := by simp at hc; omega
        subst hje
        rw [List.take_length] at hm hp1
        have hml : m ≤ l.length := by omega
        obtain ⟨_, hrow1'⟩ := hrow1.own.resolve_left (by simp)
        obtain ⟨cap', cur, hv1, hN1, hg1, hmc, hmx, hcs, htk⟩ := hrow1'
        simp only [Value.slice.injEq, true_and, Option.some.injEq, Addr.mk.injEq, and_true] at hv1
        obtain ⟨rfl, rfl⟩ := hv1
        repeat (first | refine cg_seq ?_ | refine cg_region ?_ | refine eg_then ?_ | refine qsp ?_ | refine cg_exit ?_ | refine eg_then_exit ?_ | refine eg_in_exit ?_)
        refine rs rfl rfl (loc_det rfl (d_suf_row rfl rfl rfl hml hmc)) ?_
        refine r_clear (i := m) (m := l.length) (cap := c) rfl rfl rfl rfl rfl hml hmc hg1 hcs rfl (by decide) (.inr hmu) ?_
        intro k2 cur2 ht2 hk2 hs2 htk2
        repeat (first | refine cg_seq ?_ | refine cg_region ?_ | refine rg_nil ?_ | refine eg_then ?_ | refine qsp ?_)
        refine rs rfl rfl (loc_det rfl (d_pre_row rfl rfl rfl hml hmc)) ?_
        repeat (first | refine rg_nil ?_ | refine eg_then ?_ | refine qsp ?_ | refine cg_ret ?_)
        refine eg_return rfl rfl ⟨cs'.take m, ?_, by rw [← hm] at hp1 ⊢; exact hp1, ht2 h hle1 hh0, fun g hg => by simp [Value.ownBlock] at hg; subst hg; exact hh0⟩
        have hle3 : m * 3 ≤ l.length * 3 := Nat.mul_le_mul_right _ hml
        rw [hm]
        refine ⟨?_, .inr ⟨g0, c, cur2, rfl, hN1, hk2, by omega, hmx, hs2.trans hcs, ?_⟩⟩
        · rw [flat_len _ (fun y hy => hal y (List.mem_of_mem_take hy)), List.length_take, hcl, Nat.min_eq_left hml]
        · rw [htk2, flat_take cs' m hal, ← htk, List.take_take, Nat.min_eq_left hle3]

set_option maxHeartbeats 400000 in
theorem drop1_ct {k : PH} {b : Nat} {s : Step} (r : Rule) (hc : Cells k b 0 s.vs) : CT Tryz.prog 134 #[.agg r.vs.toArray, .pointer (some ⟨b, 0, none⟩)] k (fun _ v => v = .bool (decide (r.topic = s.name))) := by
  refine ct_of_body (l := [_, _]) Tryz.func134 rfl Tryz.ntmps134 (by simp) (fun _ _ _ _ h => h) fun F hF0 hFm => ?_
  repeat (first | refine cg_seq ?_ | refine cg_region ?_)
  refine rb rfl rfl rfl rfl (a_box rfl rfl) ?_; intro b2 k2 hb2 hN2 hle2 hk2
  obtain ⟨s0, s1, s2, s3, s4, s5⟩ := Step.parts (hc.le hle2)
  obtain ⟨p0, p1, p2⟩ := Rule.parts (cells_at (vs := r.vs) hk2 rfl)
  repeat (first | refine cg_seq ?_ | refine cg_region ?_ | refine rg_nil ?_ | refine eg_then ?_ | refine qsp ?_ | refine qsl ?_ | refine qsf ?_ | refine cg_ret ?_)
  exact eg_return rfl rfl rfl
set_option maxHeartbeats 400000 in
theorem drop2_ct {k : PH} {b : Nat} {s : Step} (r : Way) (hc : Cells k b 0 s.vs) : CT Tryz.prog 136 #[.agg r.vs.toArray, .pointer (some ⟨b, 0, none⟩)] k (fun _ v => v = .bool (decide (r.topic = s.name))) := by
  refine ct_of_body (l := [_, _]) Tryz.func136 rfl Tryz.ntmps136 (by simp) (fun _ _ _ _ h => h) fun F hF0 hFm => ?_
  repeat (first | refine cg_seq ?_ | refine cg_region ?_)
  refine rb rfl rfl rfl rfl (a_box rfl rfl) ?_; intro b2 k2 hb2 hN2 hle2 hk2
  obtain ⟨s0, s1, s2, s3, s4, s5⟩ := Step.parts (hc.le hle2)
  obtain ⟨p0, p1, p2⟩ := Way.parts (cells_at (vs := r.vs) hk2 rfl)
  repeat (first | refine cg_seq ?_ | refine cg_region ?_ | refine rg_nil ?_ | refine eg_then ?_ | refine qsp ?_ | refine qsl ?_ | refine qsf ?_ | refine cg_ret ?_)
  exact eg_return rfl rfl rfl
set_option maxHeartbeats 4000000 in
theorem drop_ctm {N : Nat} {k : PH} {b : Nat} {x : Conf} {a0 : Option Addr} {c0 : Nat} {a1 : Option Addr} {c1 : Nat} {a2 : Option Addr} {c2 : Nat} {a3 : Option Addr} {c3 : Nat} {s : Step} (H : OwnC N k b x a0 c0 a1 c1 a2 c2 a3 c3) (hf : x.few) (hr : confP x = true) (hok : s.ok) (hkind : s.kind = 2) (hkn : knownC x s.name = true) :
    CTMN Tryz.prog 131 #[.pointer (some ⟨b, 0, none⟩), .agg s.vs.toArray, .int .i64 (posF (fun t => cmpStr t.name s.name) x.topics : Int)] k N (fun g => g = b) (PostC N b (actC x s)) := by
  refine ctmn_of_body (l := [_, _, _]) Tryz.func131 rfl Tryz.ntmps131 (by simp) fun F hF0 hFm hN0 hlt0 => ?_
  have hmu : F.mu b := by rw [hFm]
  obtain ⟨r1, r2, r3, r4, r5, r6⟩ := conf_parts hr
  have hact : actC x s = .ok { x with topics := x.topics.filter fun t => !decide (t.name = s.name), rules := x.rules.filter fun r => !decide (r.topic = s.name), ways := x.ways.filter fun w => !decide (w.topic = s.name) } := by
    unfold actC; simp [hkind, hkn]
  rw [drop_topic r3 hkn] at hact
  obtain ⟨hlt, _, _, _⟩ := known_at r3 hkn
  generalize posF (fun t : Topic => cmpStr t.name s.name) x.topics = p at hact hlt ⊢
  have ft := hf.1; have fr := hf.2.1; have fq := hf.2.2.1; have fw := hf.2.2.2
  repeat (first | refine cg_seq ?_ | refine cg_region ?_)
  refine rb rfl rfl rfl rfl (a_box rfl rfl) ?_; intro b3 k3 hb3 hN3 hle3 hk3
  have H := H.le hle3
  obtain ⟨p0, p1, p2, p3, p4⟩ := Conf.parts H.cells
  have hbk3 := H.at'
  have hne : b3 ≠ b := fun e => by rw [← e, hk3] at hbk3; exact absurd (cells_ty hbk3) (by decide)
  repeat (first | refine cg_seq ?_ | refine cg_region ?_ | refine rg_nil ?_ | refine eg_then ?_ | refine qsp ?_ | refine qsl ?_ | refine qsf ?_)
  refine rvn rfl rfl rfl rfl rfl rfl rfl (cloneTopic_ct H.cf.t (by omega)) ?_
  rintro N4 k4 v4 hN4 hnew4 hle4 ⟨css4, hp4, hrow4⟩
  have H := H.le hle4
  repeat (first | refine qsp ?_ | refine qsa ?_)
  refine rcm rfl rfl rfl rfl rfl rfl rfl (deleteTopic_ct (i := p) (j := p + 1) (h := k3) hrow4 hp4 hle4 (hrow4.apart hnew4) (Nat.le_succ _) hlt) (fun b hb => .inl (Nat.le_trans hN4 (hrow4.block hb).1)) ?_
  rintro u5 k5 hk45 ⟨hrow5, hp5, hle5, hap5⟩
  have H := (H.le (Le.refl _))
  have hown5 : Own tTopic N k5 72 u5 (x.topics.take p ++ x.topics.drop (p + 1)) := ⟨_, hp5.le hle5, hrow5.N_le (Nat.le_trans hN0 hN4)⟩
  obtain ⟨a5, c5, rfl, _⟩ := hown5.sl
  have H5 : OwnC N k5 b x a0 c0 a1 c1 a2 c2 a3 c3 := (‹OwnC N k3 b x a0 c0 a1 c1 a2 c2 a3 c3›).le hle5
  repeat (first | refine qsp ?_ | refine qsf ?_)
  refine rw0 rfl rfl rfl rfl rfl rfl rfl rfl H5.at' ?_ (.inr hmu) ?_
  · show 1 < 5
    omega
  intro k6 ht6 hk6
  have H6 := H5.setT hown5 ht6 rfl hk6
  have cs6 := cells_at (vs := s.vs) (turn1_get ht6 hne (hle5 _ _ hk3)) rfl
  obtain ⟨y, hy⟩ : ∃ y : Conf, y = { x with topics := x.topics.take p ++ x.topics.drop (p + 1) } := ⟨_, rfl⟩
  rw [← hy] at H6
  have ey : actC x s = .ok { y with rules := y.rules.filter fun r => !decide (r.topic = s.name), ways := y.ways.filter fun w => !decide (w.topic = s.name) } := by rw [hact, hy]
  have fy : y.rules.length ≤ 1000000 ∧ y.ways.length ≤ 1000000 := by rw [hy]; exact ⟨fr, fw⟩
  clear hact
  obtain ⟨p0, p1, p2, p3, p4⟩ := Conf.parts H6.cells
  repeat (first | refine cg_seq ?_ | refine cg_region ?_ | refine rg_nil ?_ | refine eg_then ?_ | refine qsp ?_ | refine qsl ?_ | refine qsf ?_)
  refine rvn rfl rfl rfl rfl rfl rfl rfl (cloneRule_ct H6.cf.r (by omega)) ?_
  rintro N7 k7 v7 hN7 hnew7 hle7 ⟨css7, hp7, hrow7⟩
  repeat (first | refine qsp ?_)
  refine rcm rfl rfl rfl rfl rfl rfl rfl (deleteFuncRule_ct (g := 134) (cap := #[.pointer (some ⟨b3, 0, none⟩)]) (h := k6) (fun r => decide (r.topic = s.name)) hrow7 hp7 hle7 (hrow7.apart hnew7) (fun k0 hk0 r cm hcm => by rw [hcm.1]; exact drop1_ct r (cs6.le hk0))) (fun b hb => .inl (Nat.le_trans hN7 (hrow7.block hb).1)) ?_
  rintro u8 k8 _ ⟨css8, hrow8, hp8, hle8, hap8⟩
  have hown8 : Own tRule N k8 74 u8 (y.rules.filter fun r => !decide (r.topic = s.name)) := ⟨_, hp8.le hle8, hrow8.N_le (Nat.le_trans hN0 hN7)⟩
  obtain ⟨a8, c8, rfl, _⟩ := hown8.sl
  have H8 := H6.le hle8
  repeat (first | refine qsp ?_ | refine qsf ?_)
  refine rw0 rfl rfl rfl rfl rfl rfl rfl rfl H8.at' ?_ (.inr hmu) ?_
  · show 2 < 5
    omega
  intro k9 ht9 hk9
  have H9 := H8.setR hown8 ht9 rfl hk9
  have cs9 := cells_at (vs := s.vs) (turn1_get ht9 hne (hle8 _ _ (turn1_get ht6 hne (hle5 _ _ hk3)))) rfl
  obtain ⟨z, hz⟩ : ∃ z : Conf, z = { y with rules := y.rules.filter fun r => !decide (r.topic = s.name) } := ⟨_, rfl⟩
  rw [← hz] at H9
  have ez : actC x s = .ok { z with ways := z.ways.filter fun w => !decide (w.topic = s.name) } := by rw [ey, hz]
  have fz : z.ways.length ≤ 1000000 := by rw [hz]; exact fy.2
  obtain ⟨p0, p1, p2, p3, p4⟩ := Conf.parts H9.cells
  repeat (first | refine cg_seq ?_ | refine cg_region ?_ | refine rg_nil ?_ | refine eg_then ?_ | refine qsp ?_ | refine qsl ?_ | refine qsf ?_)
  refine rvn rfl rfl rfl rfl rfl rfl rfl (cloneWay_ct H9.cf.w (by omega)) ?_
  rintro N10 k10 v10 hN10 hnew10 hle10 ⟨css10, hp10, hrow10⟩
  repeat (first | refine qsp ?_)
  refine rcm rfl rfl rfl rfl rfl rfl rfl (deleteFuncWay_ct (g := 136) (cap := #[.pointer (some ⟨b3, 0, none⟩)]) (h := k9) (fun r => decide (r.topic = s.name)) hrow10 hp10 hle10 (hrow10.apart hnew10) (fun k0 hk0 r cm hcm => by rw [hcm.1]; exact drop2_ct r (cs9.le hk0))) (fun b hb => .inl (Nat.le_trans hN10 (hrow10.block hb).1)) ?_
  rintro u11 k11 _ ⟨css11, hrow11, hp11, hle11, hap11⟩
  have hown11 : Own tWay N k11 78 u11 (z.ways.filter fun r => !decide (r.topic = s.name)) := ⟨_, hp11.le hle11, hrow11.N_le (Nat.le_trans hN0 hN10)⟩
  obtain ⟨a11, c11, rfl, _⟩ := hown11.sl
  have H11 := H9.le hle11
  repeat (first | refine qsp ?_ | refine qsf ?_)
  refine rw0 rfl rfl rfl rfl rfl rfl rfl rfl H11.at' ?_ (.inr hmu) ?_
  · show 4 < 5
    omega
  intro k12 ht12 hk12
  repeat (first | refine cg_seq ?_ | refine cg_region ?_ | refine rg_nil ?_ | refine eg_then ?_ | refine qsp ?_ | refine cg_ret ?_)
  exact eg_return rfl rfl (postO ez (H11.setW hown11 ht12 rfl hk12))
end Go.Wm

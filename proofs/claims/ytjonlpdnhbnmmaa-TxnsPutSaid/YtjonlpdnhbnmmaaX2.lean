/-
  What of ended transactions is hidden from a reader, and whether transactions are few and the same. Conditions: that what is handed in reads as data.
-/
import Derived.Test.YtjonlpdnhbnmmaaX1
set_option linter.all false
namespace Go.Wm
open Go.RowKit Go.Proofs
attribute [local irreducible] RG CG EG WA Loc Det Alc CT Exit.then Exit.inBlock Code.wp bodyPost

set_option maxHeartbeats 400000 in
theorem cloneGone_ct {k : PH} {a : Option Addr} {c : Nat} {l : List Gone} (hl : Sl tGone k a c l) (hb : l.length * 32 ≤ 140737488355328) :
    CTN Try.prog 123 #[.slice a l.length c] k (fun N k' v => ∃ css, Pieces tGone k css l ∧ Row N k' 56 4 v l.length css.flatten) := by
  refine ctn_of_body (l := [_]) Try.func123 rfl Try.ntmps123 (by simp) (fun N k k' v hle ⟨css, h1, h2⟩ => ⟨css, h1, h2.le hle⟩) fun F hF0 hFm => ?_
  have b1 := hl.cap; have b2 := hl.max; unfold maxLen at b2
  repeat (first | refine cg_seq ?_ | refine cg_region ?_ | refine rg_nil ?_ | refine eg_then ?_ | refine qsp ?_)
  refine rs rfl rfl (loc_det rfl (d_eqsl rfl rfl)) ?_
  cases a with
  | none =>
    have hc := hl.nil rfl
    have : l = [] := List.length_eq_zero_iff.1 (by omega)
    subst this
    repeat (first | refine cg_seq ?_ | refine cg_region ?_ | refine rg_nil ?_ | refine eg_then ?_ | refine qsp ?_ | refine cg_cond_true rfl ?_ | refine cg_ret ?_ | refine eg_then_ret ?_)
    exact eg_return rfl rfl ⟨[], Pieces.nil _ _, row_nil _ _ _ _⟩
  | some ad =>
    repeat (first | refine cg_seq ?_ | refine cg_region ?_ | refine rg_nil ?_ | refine eg_then ?_ | refine cg_cond_false rfl ?_ | refine cg_skip ?_)
    refine rb rfl rfl rfl rfl (a_empty rfl) ?_; intro b k2 hb2 hN2 hle2 hk2
    repeat (first | refine qsp ?_)
    refine raps2 (T := tGone) (sz := 4) (m := 0) (olds := []) rfl rfl rfl rfl rfl rfl rfl rfl (row_empty hN2 hk2) hl hle2 Gone.one rfl rfl (by unfold maxLen; omega) (by omega) ?_
    intro v k3 css hp hrow ht
    repeat (first | refine rg_nil ?_ | refine eg_then ?_ | refine qsp ?_ | refine cg_ret ?_)
    refine eg_return rfl rfl ⟨css, hp, by simpa using hrow⟩

set_option maxHeartbeats 2000000 in
theorem deleteFuncGone_ct {N : Nat} {h k : PH} {v : Value} {css : List (List Value)} {l : List Gone} {g : FuncId} [FnOk Try.prog g] {cap : Array Value} (f : Gone → Bool) (hrow : Row N k 56 4 v l.length css.flatten) (hp : Pieces tGone h css l) (hle : Le h k) (hap : Apart h v)
    (hf : ∀ k0, Le h k0 → ∀ x cm, tGone.rep k0 cm x → CT Try.prog g (#[] ++ [.agg cm.toArray].toArray ++ cap) k0 (fun _ v => v = .bool (f x))) :
    CTM Try.prog 122 #[v, .func (.func g) #[] cap] k (fun b => v.ownBlock = some b) (fun k' u => ∃ css', Row N k' 56 4 u (l.filter fun x => !f x).length css'.flatten ∧ Pieces tGone h css' (l.filter fun x => !f x) ∧ Le h k' ∧ Apart h u) := by
  refine ctm_of_body (l := [_, _]) Try.func122 rfl Try.ntmps122 (by simp) fun F hF0 hFm hlt0 => ?_
  obtain ⟨a, c, rfl, hsl⟩ := Row.sls hrow (hp.le hle)
  have b1 := hsl.cap; have b2 := hsl.max; unfold maxLen at b2
  have hidx := indexFuncGone_ct hsl f (fun m hm cm hcm => hf k hle m cm hcm)
  repeat (first | refine cg_seq ?_ | refine cg_region ?_ | refine rg_nil ?_ | refine eg_then ?_ | refine qsp ?_)
  refine rs rfl rfl (loc_call_is rfl rfl rfl rfl (hidx)) ?_
  repeat (first | refine cg_seq ?_ | refine cg_region ?_ | refine rg_nil ?_ | refine eg_then ?_ | refine qsp ?_)
  rcases idxF_cases l f with ⟨hx, hno⟩ | ⟨i0, hi0, hx, hyes, hno⟩
  · rw [hx]
    repeat (first | refine cg_seq ?_ | refine cg_region ?_ | refine rg_nil ?_ | refine eg_then ?_ | refine qsp ?_ | refine cg_cond_true rfl ?_ | refine cg_ret ?_ | refine eg_then_ret ?_)
    refine eg_return rfl rfl ⟨css, ?_⟩
    have : l.filter (fun x => !f x) = l := List.filter_eq_self.2 fun x hx => by rw [hno x hx]; rfl
    rw [this]
    exact ⟨hrow, hp, hle, hap⟩
  · rw [hx]
    have hcl0 : ∀ y ∈ css, y.length = 4 := hp.len
    have hcll : css.length = l.length := hp.1
    obtain ⟨g0, cap0, cur0, hv0, hN0, hg0, _⟩ : ∃ g cap cur, Value.slice a l.length c = .slice (some ⟨g, 0, none⟩) l.length cap ∧ N ≤ g ∧ k g = some (.cells cur 56 (0, 0)) ∧ True := by
      obtain ⟨g, cap, cur, e1, e2, e3, _⟩ := hrow.el (i := i0) hcl0 (List.getElem?_eq_getElem (by omega)) (by decide)
      exact ⟨g, cap, cur, e1, e2, e3, trivial⟩
    simp only [Value.slice.injEq, true_and] at hv0
    obtain ⟨rfl, rfl⟩ := hv0
    have hmu : F.mu g0 := by rw [hFm]; rfl
    have hh0 : h g0 = none := hap g0 rfl
    have hlt := hlt0 g0 _ hg0
    have tk : ∀ j, (hj : j < l.length) → (l.take (j + 1)).filter (fun x => !f x) = (l.take j).filter (fun x => !f x) ++ (if f l[j] then [] else [l[j]]) := fun j hj => by
      rw [List.take_succ_eq_append_getElem hj, List.filter_append]
      congr 1
      cases e : f l[j] <;> simp [e]
    have e1 : (l.take (i0 + 1)).filter (fun x => !f x) = l.take i0 := by
      rw [tk i0 hi0, hyes]
      simp
      exact fun x hx => by simpa using hno x hx
    have e2 : (l.take i0).length = i0 := by rw [List.length_take]; omega
    repeat (first | refine cg_seq ?_ | refine cg_region ?_ | refine rg_nil ?_ | refine eg_then ?_ | refine qsp ?_ | refine qsa ?_ | refine cg_cond_false rfl ?_ | refine cg_skip ?_ | refine cg_block ?_)
    refine cg_loop (fun (j : Nat) e k' => ∃ cs', (∀ y ∈ cs', y.length = 4) ∧ cs'.length = l.length ∧ Row N k' 56 4 (.slice (some ⟨g0, 0, none⟩) l.length c) l.length cs'.flatten ∧ Pieces tGone h (cs'.take ((l.take j).filter fun x => !f x).length) ((l.take j).filter fun x => !f x) ∧ (∀ q, j ≤ q → cs'[q]? = css[q]?) ∧ Le h k' ∧ ((l.take j).filter fun x => !f x).length < j ∧ j ≤ l.length ∧
        e = [(0, .is (.slice (some ⟨g0, 0, none⟩) l.length c)), (1, .is (.func (.func g) #[] cap)), (5, .is (.int .i64 (((l.take j).filter fun x => !f x).length : Nat))), (6, .is (.int .i64 (j : Int)))])
      (fun j => l.length - j) (i0 + 1) ⟨css, hcl0, hcll, hrow, ?_, fun _ _ => rfl, hle, ?_, hi0, rfl⟩ ⟨rfl, rfl, ?_, rfl, trivial⟩ ?_
    · rw [e1, e2]
      refine ⟨by simp; omega, fun q cs x h1 h2 => ?_⟩
      rw [List.getElem?_take] at h1 h2
      split at h1
      · rename_i hq
        rw [if_pos hq] at h2
        exact hp.2 q cs x h1 h2
      · cases h1
    · rw [e1, e2]; omega
    · rw [e1, e2]; rfl
    · rintro j e k1 ⟨cs', hal, hcl, hrow1, hp1, hq1, hle1, hij, hj, rfl⟩
      obtain ⟨m, hm⟩ : ∃ m, ((l.take j).filter fun x => !f x).length = m := ⟨_, rfl⟩
      rw [hm] at hp1 hij ⊢
      repeat (first | refine cg_seq ?_ | refine cg_region ?_ | refine rg_nil ?_ | refine eg_then ?_ | refine qsp ?_ | refine qsn ?_)
      refine cg_cond rfl (fun hc => ?_) (fun hc => ?_)
      · have hlj : j < l.length := by simpa using hc
        obtain ⟨x, hxj⟩ : ∃ x, l[j] = x := ⟨_, rfl⟩
        have htk := tk j hlj
        rw [hxj] at htk
        have hcj : cs'[j]? = some css[j] := by rw [hq1 j (Nat.le_refl _)]; exact List.getElem?_eq_getElem (by omega)
        have hrep := hp.2 j _ x (List.getElem?_eq_getElem (by omega)) (by rw [List.getElem?_eq_getElem hlj, hxj])
        obtain ⟨cx, hcx⟩ : ∃ cx, css[j] = cx := ⟨_, rfl⟩
        rw [hcx] at hcj hrep
        have hcxl := tGone.len hrep
        have hone := Gone.one h cx x hrep
        obtain ⟨g', cap', cur, hv1, hN1, hg1, _, hmc, _, hcel, _⟩ := hrow1.el hal hcj (by decide)
        simp only [Value.slice.injEq, true_and, Option.some.injEq, Addr.mk.injEq, and_true] at hv1
        obtain ⟨rfl, rfl⟩ := hv1
        repeat (first | refine cg_seq ?_ | refine cg_region ?_ | refine eg_then ?_ | refine qsp ?_ | refine qsi ?_ | refine cg_skip ?_ | refine cg_block ?_)
        refine rs rfl rfl (loc_det rfl (d_load_agg (vs := cx) rfl rfl rfl hcxl hcel)) ?_
        refine rb rfl rfl rfl rfl (a_alloc rfl) ?_; intro b7 k7 hb7 hN7 hle7 hk7
        refine rw1 rfl rfl rfl rfl rfl rfl hcxl hk7 (by rw [hcxl]; rfl) (.inl hN7) hone ?_
        intro k8 ht8 hk8
        have c8 := cells_at (vs := cx) hk8 rfl
        have hle8 : Le k1 k8 := ht8 k1 hle7 hb7
        have n7 := some_ne hg1 hb7
        have hcall := hf k8 (hle1.trans hle8) x cx (tGone.mono (hle1.trans hle8) hrep)
        repeat (first | refine cg_seq ?_ | refine cg_region ?_ | refine rg_nil ?_ | refine eg_then ?_ | refine qsp ?_)
        refine rs rfl rfl (loc_det rfl (d_load_agg (vs := cx) rfl rfl rfl hcxl c8)) ?_
        refine rs rfl rfl (loc_call_is rfl rfl rfl rfl (hcall)) ?_
        repeat (first | refine rg_nil ?_ | refine eg_then ?_ | refine qsp ?_)
        have hml : m < l.length := by omega
        cases hfx : f x
        · rw [hfx] at htk
          simp only [Bool.false_eq_true, if_false] at htk
          have hcm : cs'[m]? = some cs'[m] := List.getElem?_eq_getElem (by omega)
          obtain ⟨g', cap', cur2, hv1, hN2, hg2, _, _, hsz2, _, hset⟩ := (hrow1.le hle8).el hal hcm (by decide)
          simp only [Value.slice.injEq, true_and, Option.some.injEq, Addr.mk.injEq, and_true] at hv1
          obtain ⟨rfl, rfl⟩ := hv1
          repeat (first | refine cg_seq ?_ | refine cg_region ?_ | refine qsp ?_ | refine cg_cond_true rfl ?_)
          refine rs rfl rfl (loc_det rfl (d_load_agg (vs := cx) rfl rfl rfl hcxl c8)) ?_
          refine rs rfl rfl (loc_det rfl (d_idx rfl rfl rfl hml)) ?_
          refine rst_agg rfl rfl rfl rfl rfl rfl hone hcxl hg2 (by rw [hcxl]; exact hsz2) (.inr hmu) ?_
          have hrow9 := hset _ cx hcxl (upd_same k8 g0 (.cells (cur2.toList.take (0 + m * 4) ++ cx ++ cur2.toList.drop (0 + m * 4 + cx.length)).toArray 56 (0, 0)))
          have hle9 := (hle1.trans hle8).upd (b := g0) (o := (.cells (cur2.toList.take (0 + m * 4) ++ cx ++ cur2.toList.drop (0 + m * 4 + cx.length)).toArray 56 (0, 0))) hh0
          generalize upd k8 g0 (.cells (cur2.toList.take (0 + m * 4) ++ cx ++ cur2.toList.drop (0 + m * 4 + cx.length)).toArray 56 (0, 0)) = k9 at hrow9 hle9 ⊢
          repeat (first | refine cg_region ?_ | refine rg_nil ?_ | refine eg_then ?_ | refine qsp ?_ | refine qsa ?_ | refine eg_in_normal ?_)
          have htl : ((l.take (j + 1)).filter fun x => !f x).length = m + 1 := by rw [htk, List.length_append, hm]; rfl
          have hst : (cs'.set m cx).take (m + 1) = cs'.take m ++ [cx] := by
            rw [List.take_succ_eq_append_getElem (by simp; omega), List.take_set_of_le (Nat.le_refl _)]
            simp
          refine eg_again (j + 1) _ ⟨cs'.set m cx, ?_, by simp [hcl], hrow9, ?_, ?_, hle9, by omega, hlj, rfl⟩ (by omega) ⟨rfl, rfl, ?_, rfl, trivial⟩
          · intro y hy
            rcases List.mem_or_eq_of_mem_set hy with hy | rfl
            · exact hal y hy
            · exact hcxl
          · rw [htl, hst, htk]
            exact hp1.append (Pieces.one hrep)
          · intro q hq
            rw [List.getElem?_set_ne (by omega)]
            exact hq1 q (by omega)
          · rw [htl]; rfl
        · rw [hfx] at htk
          simp only [if_true, List.append_nil] at htk
          repeat (first | refine cg_region ?_ | refine rg_nil ?_ | refine eg_then ?_ | refine qsp ?_ | refine qsa ?_ | refine cg_cond_false rfl ?_ | refine cg_skip ?_ | refine eg_in_normal ?_)
          refine eg_again (j + 1) _ ⟨cs', hal, hcl, hrow1.le hle8, by rw [htk, hm]; exact hp1, fun q hq => hq1 q (by omega), hle1.trans hle8, by rw [htk, hm]; omega, hlj, rfl⟩ (by omega) ⟨rfl, rfl, ?_, rfl, trivial⟩
          rw [htk, hm]; rfl
      · have hje : j = l.length := by simp at hc; omega
        subst hje
        rw [List.take_length] at hm hp1
        have hml : m ≤ l.length := by omega
        obtain ⟨_, hrow1'⟩ := hrow1.own.resolve_left (by simp)
        obtain ⟨cap', cur, hv1, hN1, hg1, hmc, hmx, hcs, htk⟩ := hrow1'
        simp only [Value.slice.injEq, true_and, Option.some.injEq, Addr.mk.injEq, and_true] at hv1
        obtain ⟨rfl, rfl⟩ := hv1
        repeat (first | refine cg_seq ?_ | refine cg_region ?_ | refine eg_then ?_ | refine qsp ?_ | refine cg_exit ?_ | refine eg_then_exit ?_ | refine eg_in_exit ?_)
        refine rs rfl rfl (loc_det rfl (d_suf_row rfl rfl rfl hml hmc)) ?_
        refine r_clear (i := m) (m := l.length) (cap := c) rfl rfl rfl rfl rfl hml hmc hg1 hcs rfl (by decide) (.inr hmu) ?_
        intro k2 cur2 ht2 hk2 hs2 htk2
        repeat (first | refine cg_seq ?_ | refine cg_region ?_ | refine rg_nil ?_ | refine eg_then ?_ | refine qsp ?_)
        refine rs rfl rfl (loc_det rfl (d_pre_row rfl rfl rfl hml hmc)) ?_
        repeat (first | refine rg_nil ?_ | refine eg_then ?_ | refine qsp ?_ | refine cg_ret ?_)
        refine eg_return rfl rfl ⟨cs'.take m, ?_, by rw [← hm] at hp1 ⊢; exact hp1, ht2 h hle1 hh0, fun g hg => by simp [Value.ownBlock] at hg; subst hg; exact hh0⟩
        have hle3 : m * 4 ≤ l.length * 4 := Nat.mul_le_mul_right _ hml
        rw [hm]
        refine ⟨?_, .inr ⟨g0, c, cur2, rfl, hN1, hk2, by omega, hmx, hs2.trans hcs, ?_⟩⟩
        · rw [flat_len _ (fun y hy => hal y (List.mem_of_mem_take hy)), List.length_take, hcl, Nat.min_eq_left hml]
        · rw [htk2, flat_take cs' m hal, ← htk, List.take_take, Nat.min_eq_left hle3]


set_option maxHeartbeats 400000 in
theorem without_ct {k : PH} {a : Option Addr} {c : Nat} {l : List Gone} {g : FuncId} [FnOk Try.prog g] {cap : Array Value} (f : Gone → Bool) (hl : Sl tGone k a c l) (hb : l.length ≤ 1000000)
    (hf : ∀ k0, Le k k0 → ∀ x cm, tGone.rep k0 cm x → CT Try.prog g (#[] ++ [.agg cm.toArray].toArray ++ cap) k0 (fun _ v => v = .bool (f x))) :
    CT Try.prog 97 #[.slice a l.length c, .func (.func g) #[] cap] k (fun k' v => ∃ a' c', v = .slice a' (l.filter fun x => !f x).length c' ∧ Sl tGone k' a' c' (l.filter fun x => !f x)) := by
  refine ct_of_body (l := [_, _]) Try.func97 rfl Try.ntmps97 (by simp) (fun k k' v hle ⟨a, c, h1, h2⟩ => ⟨a, c, h1, h2.le hle⟩) fun F hF0 hFm => ?_
  have b1 := hl.cap; have b2 := hl.max; unfold maxLen at b2
  repeat (first | refine cg_seq ?_ | refine cg_region ?_ | refine rg_nil ?_ | refine eg_then ?_ | refine qsp ?_)
  refine rvn rfl rfl rfl rfl rfl rfl rfl (cloneGone_ct hl (by omega)) ?_
  rintro N k6 v hN hnew hle6 ⟨css, hp, hrow⟩
  have hap := hrow.apart hnew
  repeat (first | refine qsp ?_)
  refine rcm rfl rfl rfl rfl rfl rfl rfl (deleteFuncGone_ct (g := g) (cap := cap) f hrow hp hle6 hap (fun k0 hk0 x cm hcm => hf k0 hk0 x cm hcm)) (fun b hb => .inl (Nat.le_trans hN (hrow.block hb).1)) ?_
  rintro u k7 hk7 ⟨css', hrow', hp', hle', hap'⟩
  repeat (first | refine rg_nil ?_ | refine eg_then ?_ | refine qsp ?_ | refine cg_ret ?_)
  obtain ⟨a', c', rfl, hsl⟩ := Row.sls (T := tGone) hrow' (hp'.le hle')
  exact eg_return rfl rfl ⟨a', c', rfl, hsl⟩

/-- Is an ended one of no matter between two offsets? -/
def farG (start to : Int) (g : Gone) : Bool := decide (g.last < start) || decide (g.first ≥ to)
set_option maxHeartbeats 400000 in
theorem hidden1_ct {k : PH} (g : Gone) {ps pt : Nat} (start to : Int) (hs : Cells k ps 0 [.int .i64 start]) (ht : Cells k pt 0 [.int .i64 to]) :
    CT Try.prog 98 #[.agg g.vs.toArray, .pointer (some ⟨ps, 0, none⟩), .pointer (some ⟨pt, 0, none⟩)] k (fun _ v => v = .bool (farG start to g)) := by
  refine ct_of_body (l := [_, _, _]) Try.func98 rfl Try.ntmps98 (by simp) (fun _ _ _ _ h => h) fun F hF0 hFm => ?_
  repeat (first | refine cg_seq ?_ | refine cg_region ?_)
  refine rb rfl rfl rfl rfl (a_box rfl rfl) ?_; intro b3 k3 hb3 hN3 hle3 hk3
  have c3 := cells_at (vs := g.vs) hk3 rfl
  obtain ⟨g0, g1, g2, g3⟩ := Gone.parts c3
  have hs := hs.le hle3
  have ht := ht.le hle3
  repeat (first | refine cg_seq ?_ | refine cg_region ?_ | refine rg_nil ?_ | refine eg_then ?_ | refine qsp ?_ | refine qsl ?_ | refine qsf ?_)
  cases q1 : decide (g.last < start)
  · repeat (first | refine rg_nil ?_ | refine eg_then ?_ | refine qsp ?_ | refine qsl ?_ | refine qsf ?_ | refine cg_ret ?_)
    refine eg_return rfl rfl ?_
    simp [farG, q1]
  · repeat (first | refine rg_nil ?_ | refine eg_then ?_ | refine qsp ?_ | refine qso ?_ | refine cg_ret ?_)
    refine eg_return rfl rfl ?_
    simp [farG, q1]
set_option maxHeartbeats 400000 in
theorem trim1_ct {k : PH} (g : Gone) {ps : Nat} (start : Int) (hs : Cells k ps 0 [.int .i64 start]) :
    CT Try.prog 99 #[.agg g.vs.toArray, .pointer (some ⟨ps, 0, none⟩)] k (fun _ v => v = .bool (decide (g.last < start))) := by
  refine ct_of_body (l := [_, _]) Try.func99 rfl Try.ntmps99 (by simp) (fun _ _ _ _ h => h) fun F hF0 hFm => ?_
  repeat (first | refine cg_seq ?_ | refine cg_region ?_)
  refine rb rfl rfl rfl rfl (a_box rfl rfl) ?_; intro b3 k3 hb3 hN3 hle3 hk3
  have c3 := cells_at (vs := g.vs) hk3 rfl
  obtain ⟨g0, g1, g2, g3⟩ := Gone.parts c3
  have hs := hs.le hle3
  repeat (first | refine cg_seq ?_ | refine cg_region ?_ | refine rg_nil ?_ | refine eg_then ?_ | refine qsp ?_ | refine qsl ?_ | refine qsf ?_ | refine cg_ret ?_)
  exact eg_return rfl rfl rfl
def hiddenL (t : Tx) (start to : Int) : List Gone := t.gone.filter fun g => !farG start to g
set_option maxHeartbeats 400000 in
theorem hidden_ct {k : PH} {t : Tx} {a0 a1 a2 : Option Addr} {c0 c1 c2 : Nat} (start to : Int) (hg : Sl tGone k a1 c1 t.gone) (hb : t.gone.length ≤ 1000000) :
    CT Try.prog 53 #[.agg (t.cs a0 c0 a1 c1 a2 c2).toArray, .int .i64 start, .int .i64 to] k (fun k' v => ∃ a' c', v = .slice a' (hiddenL t start to).length c' ∧ Sl tGone k' a' c' (hiddenL t start to)) := by
  refine ct_of_body (l := [_, _, _]) Try.func53 rfl Try.ntmps53 (by simp) (fun k k' v hle ⟨a, c, h1, h2⟩ => ⟨a, c, h1, h2.le hle⟩) fun F hF0 hFm => ?_
  repeat (first | refine cg_seq ?_ | refine cg_region ?_)
  refine rb rfl rfl rfl rfl (a_box rfl rfl) ?_; intro b3 k3 hb3 hN3 hle3 hk3
  refine rb rfl rfl rfl rfl (a_box rfl rfl) ?_; intro b4 k4 hb4 hN4 hle4 hk4
  refine rb rfl rfl rfl rfl (a_box rfl rfl) ?_; intro b5 k5 hb5 hN5 hle5 hk5
  have ct := (cells_at (vs := t.cs a0 c0 a1 c1 a2 c2) hk3 rfl).le (hle4.trans hle5)
  obtain ⟨t0, t1, t2⟩ := Tx.parts ct
  have c4 := (cells_at (vs := [.int .i64 start]) hk4 rfl).le hle5
  have c5 := cells_at (vs := [.int .i64 to]) hk5 rfl
  have hg := hg.le (hle3.trans (hle4.trans hle5))
  repeat (first | refine cg_seq ?_ | refine cg_region ?_ | refine rg_nil ?_ | refine eg_then ?_ | refine qsp ?_ | refine qsl ?_ | refine qsf ?_)
  refine rv rfl rfl rfl (loc_call rfl rfl rfl rfl (fun k k' v hle ⟨a, c, h1, h2⟩ => ⟨a, c, h1, h2.le hle⟩) (without_ct (g := 98) (cap := #[.pointer (some ⟨b4, 0, none⟩), .pointer (some ⟨b5, 0, none⟩)]) (farG start to) hg hb (fun k0 hk0 x cm hcm => ?_))) ?_
  · obtain ⟨rfl, _⟩ := hcm
    exact hidden1_ct x start to (c4.le hk0) (c5.le hk0)
  rintro k6 hle6 _ ⟨a6, c6, rfl, h6⟩
  repeat (first | refine rg_nil ?_ | refine eg_then ?_ | refine qsp ?_ | refine cg_ret ?_)
  exact eg_return rfl rfl ⟨a6, c6, rfl, h6⟩

/-! ### few and the same -/
def fewT (t : Tx) : Bool := decide (t.openV.length ≤ 60) && (decide (t.gone.length ≤ 60) && decide (t.done.length ≤ 60))
set_option maxHeartbeats 400000 in
theorem fewT_ct {k : PH} {t : Tx} {a0 a1 a2 : Option Addr} {c0 c1 c2 : Nat} :
    CT Try.prog 37 #[.agg (t.cs a0 c0 a1 c1 a2 c2).toArray] k (fun _ v => v = .bool (fewT t)) := by
  refine ct_of_body (l := [_]) Try.func37 rfl Try.ntmps37 (by simp) (fun _ _ _ _ h => h) fun F hF0 hFm => ?_
  repeat (first | refine cg_seq ?_ | refine cg_region ?_)
  refine rb rfl rfl rfl rfl (a_box rfl rfl) ?_; intro b3 k3 hb3 hN3 hle3 hk3
  have ct := cells_at (vs := t.cs a0 c0 a1 c1 a2 c2) hk3 rfl
  obtain ⟨t0, t1, t2⟩ := Tx.parts ct
  repeat (first | refine cg_seq ?_ | refine cg_region ?_ | refine rg_nil ?_ | refine eg_then ?_ | refine qsp ?_ | refine qsn ?_ | refine qsl ?_ | refine qsf ?_)
  cases q1 : decide ((t.openV.length : Int) ≤ 60)
  · repeat (first | refine rg_nil ?_ | refine eg_then ?_ | refine qsp ?_ | refine qso ?_ | refine cg_ret ?_)
    refine eg_return rfl rfl ?_
    simp at q1
    simp [fewT]; omega
  repeat (first | refine qsp ?_ | refine qsn ?_ | refine qsl ?_ | refine qsf ?_)
  cases q2 : decide ((t.gone.length : Int) ≤ 60)
  · repeat (first | refine rg_nil ?_ | refine eg_then ?_ | refine qsp ?_ | refine qso ?_ | refine cg_ret ?_)
    refine eg_return rfl rfl ?_
    simp at q2
    simp [fewT]; omega
  repeat (first | refine rg_nil ?_ | refine eg_then ?_ | refine qsp ?_ | refine qsn ?_ | refine qsl ?_ | refine qsf ?_ | refine cg_ret ?_)
  refine eg_return rfl rfl ?_
  simp at q1 q2
  rw [show fewT t = decide (t.done.length ≤ 60) by unfold fewT; rw [decide_eq_true (show t.openV.length ≤ 60 by omega), decide_eq_true (show t.gone.length ≤ 60 by omega)]; rfl]
  congr 1
  rw [decide_eq_decide]; omega
set_option maxHeartbeats 400000 in
theorem sameGone_ct {k : PH} {a b : Option Addr} {ca cb : Nat} {xs ys : List Gone} (hx : Sl tGone k a ca xs) (hy : Sl tGone k b cb ys) :
    CT Try.prog 50 #[.slice a xs.length ca, .slice b ys.length cb] k (fun _ v => v = .bool (decide (xs = ys))) := by
  refine ct_of_body (l := [_, _]) Try.func50 rfl Try.ntmps50 (by simp) (fun _ _ _ _ h => h) fun F hF0 hFm => ?_
  have b1 := hx.cap; have b2 := hx.max; unfold maxLen at b2
  repeat (first | refine cg_seq ?_ | refine cg_region ?_ | refine rg_nil ?_ | refine eg_then ?_ | refine qsp ?_ | refine qsn ?_)
  refine cg_cond rfl (fun h => ?_) (fun h => ?_)
  · repeat (first | refine cg_seq ?_ | refine cg_region ?_ | refine rg_nil ?_ | refine eg_then ?_ | refine qsp ?_ | refine cg_ret ?_ | refine eg_then_ret ?_)
    refine eg_return rfl rfl ?_
    have : xs ≠ ys := by rintro rfl; simp at h
    simp [this]
  · have hlen : xs.length = ys.length := by
      simp at h; omega
    repeat (first | refine cg_seq ?_ | refine cg_region ?_ | refine rg_nil ?_ | refine eg_then ?_ | refine qsp ?_ | refine cg_skip ?_ | refine cg_block ?_)
    refine cg_loop (fun (i : Nat) e k' => k' = k ∧ i ≤ xs.length ∧ (∀ j, j < i → xs[j]? = ys[j]?) ∧ e = [(0, .is (.slice a xs.length ca)), (1, .is (.slice b ys.length cb)), (5, .is (.int .i64 (i : Int)))])
      (fun i => xs.length - i) 0 ⟨rfl, Nat.zero_le _, fun j hj => by omega, rfl⟩ ⟨rfl, rfl, rfl, trivial⟩ ?_
    rintro i e k1 ⟨rfl, hi, heq, rfl⟩
    repeat (first | refine cg_seq ?_ | refine cg_region ?_ | refine rg_nil ?_ | refine eg_then ?_ | refine qsp ?_ | refine qsn ?_)
    refine cg_cond rfl (fun h => ?_) (fun h => ?_)
    · have hlt : i < xs.length := by simpa using h
      have hlt2 : i < ys.length := by omega
      obtain ⟨bx, ox, cx, rfl, ⟨rfl, _⟩, hcx⟩ := hx.el i xs[i] (List.getElem?_eq_getElem hlt)
      obtain ⟨by', oy, cy, rfl, ⟨rfl, _⟩, hcy⟩ := hy.el i ys[i] (List.getElem?_eq_getElem hlt2)
      repeat (first | refine cg_seq ?_ | refine eg_then ?_ | refine cg_skip ?_ | refine cg_block ?_)
      refine cg_any (by kernel_rfl) rfl ?_
      repeat (first | refine qwp ?_ | refine qwi ?_ | refine qwg ?_ | refine qwX ?_ | (refine wn rfl ?_; refine eg_then ?_))
      refine cg_cond rfl (fun h => ?_) (fun h => ?_)
      · repeat (first | refine cg_seq ?_ | refine cg_region ?_ | refine rg_nil ?_ | refine eg_then ?_ | refine qsp ?_ | refine cg_ret ?_ | refine eg_then_ret ?_ | refine eg_in_ret ?_)
        refine eg_return rfl rfl ?_
        have : xs ≠ ys := by
          rintro rfl
          simp at h
        simp [this]
      · repeat (first | refine cg_region ?_ | refine rg_nil ?_ | refine eg_then ?_ | refine qsp ?_ | refine qsa ?_ | refine cg_skip ?_ | refine eg_in_normal ?_)
        refine eg_again (i + 1) _ ⟨rfl, hlt, fun j hj => ?_, rfl⟩ (by omega) ⟨rfl, rfl, rfl, trivial⟩
        by_cases hji : j = i
        · subst hji
          rw [List.getElem?_eq_getElem hlt, List.getElem?_eq_getElem hlt2]
          have : xs[j] = ys[j] := by simpa using h
          rw [this]
        · exact heq j (by omega)
    · repeat (first | refine cg_seq ?_ | refine cg_region ?_ | refine rg_nil ?_ | refine eg_then ?_ | refine qsp ?_ | refine cg_ret ?_ | refine cg_exit ?_ | refine eg_then_exit ?_ | refine eg_in_exit ?_)
      refine eg_return rfl rfl ?_
      have hix : i = xs.length := by simp at h; omega
      have : xs = ys := by
        apply List.ext_getElem?
        intro j
        by_cases hj : j < xs.length
        · exact heq j (by omega)
        · rw [List.getElem?_eq_none (by omega), List.getElem?_eq_none (by omega)]
      simp [this]
theorem Tx.eq_iff {a b : Tx} : a = b ↔ a.openV = b.openV ∧ a.gone = b.gone ∧ a.done = b.done := by
  cases a; cases b; simp
set_option maxHeartbeats 1000000 in
theorem sameTx_ct {k : PH} {s t : Tx} {a0 a1 a2 b0 b1 b2 : Option Addr} {c0 c1 c2 d0 d1 d2 : Nat} (ho : Sl tOpenT k a0 c0 s.openV) (hg : Sl tGone k a1 c1 s.gone) (hd : Sl tGone k a2 c2 s.done) (go : Sl tOpenT k b0 d0 t.openV) (gg : Sl tGone k b1 d1 t.gone) (gd : Sl tGone k b2 d2 t.done) :
    CT Try.prog 43 #[.agg (s.cs a0 c0 a1 c1 a2 c2).toArray, .agg (t.cs b0 d0 b1 d1 b2 d2).toArray] k (fun _ v => v = .bool (decide (s = t))) := by
  refine ct_of_body (l := [_, _]) Try.func43 rfl Try.ntmps43 (by simp) (fun _ _ _ _ h => h) fun F hF0 hFm => ?_
  have e1 := ho.cap; have e2 := ho.max; unfold maxLen at e2
  repeat (first | refine cg_seq ?_ | refine cg_region ?_)
  refine rb rfl rfl rfl rfl (a_box rfl rfl) ?_; intro b3 k3 hb3 hN3 hle3 hk3
  refine rb rfl rfl rfl rfl (a_box rfl rfl) ?_; intro b4 k4 hb4 hN4 hle4 hk4
  have hle := hle3.trans hle4
  have cs := (cells_at (vs := s.cs a0 c0 a1 c1 a2 c2) hk3 rfl).le hle4
  have ct := cells_at (vs := t.cs b0 d0 b1 d1 b2 d2) hk4 rfl
  obtain ⟨p0, p1, p2⟩ := Tx.parts cs
  obtain ⟨r0, r1, r2⟩ := Tx.parts ct
  have bad : s ≠ t → Value.bool false = .bool (decide (s = t)) := fun h => by simp [h]
  have hg := hg.le hle
  have hd := hd.le hle
  have gg := gg.le hle
  have gd := gd.le hle
  repeat (first | refine cg_seq ?_ | refine cg_region ?_ | refine rg_nil ?_ | refine eg_then ?_ | refine qsp ?_ | refine qsn ?_ | refine qsl ?_ | refine qsf ?_)
  cases q0 : decide (s.openV.length = t.openV.length)
  · rw [show ((s.openV.length : Int) != (t.openV.length : Int)) = true by simp at q0; simp; omega]
    repeat (first | refine cg_seq ?_ | refine cg_region ?_ | refine rg_nil ?_ | refine eg_then ?_ | refine qsp ?_ | refine qso ?_ | refine cg_cond_true rfl ?_ | refine cg_ret ?_ | refine eg_then_ret ?_)
    exact eg_return rfl rfl (bad (fun h => by rw [h] at q0; simp at q0))
  have hlen : s.openV.length = t.openV.length := of_decide_eq_true q0
  rw [show ((s.openV.length : Int) != (t.openV.length : Int)) = false by simp [hlen]]
  repeat (first | refine qsl ?_ | refine qsf ?_)
  refine rs rfl rfl (loc_call_is rfl rfl rfl rfl (sameGone_ct hg gg)) ?_
  repeat (first | refine qsp ?_)
  cases q1 : decide (s.gone = t.gone)
  · repeat (first | refine cg_seq ?_ | refine cg_region ?_ | refine rg_nil ?_ | refine eg_then ?_ | refine qsp ?_ | refine qso ?_ | refine cg_cond_true rfl ?_ | refine cg_ret ?_ | refine eg_then_ret ?_)
    exact eg_return rfl rfl (bad (fun h => by rw [h] at q1; simp at q1))
  repeat (first | refine qsl ?_ | refine qsf ?_)
  refine rs rfl rfl (loc_call_is rfl rfl rfl rfl (sameGone_ct hd gd)) ?_
  repeat (first | refine rg_nil ?_ | refine eg_then ?_ | refine qsp ?_)
  cases q2 : decide (s.done = t.done)
  · repeat (first | refine cg_seq ?_ | refine cg_region ?_ | refine rg_nil ?_ | refine eg_then ?_ | refine qsp ?_ | refine cg_cond_true rfl ?_ | refine cg_ret ?_ | refine eg_then_ret ?_)
    exact eg_return rfl rfl (bad (fun h => by rw [h] at q2; simp at q2))
  have h1 := of_decide_eq_true q1
  have h2 := of_decide_eq_true q2
  repeat (first | refine cg_seq ?_ | refine cg_region ?_ | refine rg_nil ?_ | refine eg_then ?_ | refine qsp ?_ | refine cg_cond_false rfl ?_ | refine cg_skip ?_ | refine cg_block ?_)
  refine cg_loop (fun (i : Nat) e k' => Le k4 k' ∧ i ≤ s.openV.length ∧ (∀ j, j < i → s.openV[j]? = t.openV[j]?) ∧ e = [(2, .is (.pointer (some ⟨b3, 0, none⟩))), (3, .is (.pointer (some ⟨b4, 0, none⟩))), (5, .is (.int .i64 (i : Int)))])
    (fun i => s.openV.length - i) 0 ⟨Le.refl _, Nat.zero_le _, fun j hj => by omega, rfl⟩ ⟨rfl, rfl, rfl, trivial⟩ ?_
  rintro i e k5 ⟨hle5, hi, heq, rfl⟩
  obtain ⟨p0, p1, p2⟩ := Tx.parts (cs.le hle5)
  obtain ⟨r0, r1, r2⟩ := Tx.parts (ct.le hle5)
  repeat (first | refine cg_seq ?_ | refine cg_region ?_ | refine rg_nil ?_ | refine eg_then ?_ | refine qsp ?_ | refine qsn ?_ | refine qsl ?_ | refine qsf ?_)
  refine cg_cond rfl (fun h => ?_) (fun h => ?_)
  · have hlt : i < s.openV.length := by simpa using h
    have hlt2 : i < t.openV.length := by omega
    obtain ⟨bx, ox, cx, rfl, ⟨rfl, _⟩, hcx⟩ := (ho.le (hle.trans hle5)).el i s.openV[i] (List.getElem?_eq_getElem hlt)
    obtain ⟨by', oy, cy, rfl, ⟨rfl, _⟩, hcy⟩ := (go.le (hle.trans hle5)).el i t.openV[i] (List.getElem?_eq_getElem hlt2)
    repeat (first | refine cg_seq ?_ | refine eg_then ?_ | refine cg_skip ?_ | refine cg_block ?_)
    refine cg_any (by kernel_rfl) rfl ?_
    repeat (first | refine qwp ?_ | refine qwi ?_ | refine qwl ?_ | refine qwg ?_ | refine qwf ?_ | refine qwX ?_ | (refine wn rfl ?_; refine eg_then ?_))
    refine cg_cond rfl (fun h => ?_) (fun h => ?_)
    · repeat (first | refine cg_seq ?_ | refine cg_region ?_ | refine rg_nil ?_ | refine eg_then ?_ | refine qsp ?_ | refine cg_ret ?_ | refine eg_then_ret ?_ | refine eg_in_ret ?_)
      refine eg_return rfl rfl (bad (fun hst => ?_))
      subst hst
      simp at h
    · repeat (first | refine cg_region ?_ | refine rg_nil ?_ | refine eg_then ?_ | refine qsp ?_ | refine qsa ?_ | refine cg_skip ?_ | refine eg_in_normal ?_)
      refine eg_again (i + 1) _ ⟨hle5, hlt, fun j hj => ?_, rfl⟩ (by omega) ⟨rfl, rfl, rfl, trivial⟩
      by_cases hji : j = i
      · subst hji
        rw [List.getElem?_eq_getElem hlt, List.getElem?_eq_getElem hlt2]
        have : s.openV[j] = t.openV[j] := by simpa using h
        rw [this]
      · exact heq j (by omega)
  · repeat (first | refine cg_seq ?_ | refine cg_region ?_ | refine rg_nil ?_ | refine eg_then ?_ | refine qsp ?_ | refine cg_ret ?_ | refine cg_exit ?_ | refine eg_then_exit ?_ | refine eg_in_exit ?_)
    refine eg_return rfl rfl ?_
    have hix : i = s.openV.length := by simp at h; omega
    have : s.openV = t.openV := by
      apply List.ext_getElem?
      intro j
      by_cases hj : j < s.openV.length
      · exact heq j (by omega)
      · rw [List.getElem?_eq_none (by omega), List.getElem?_eq_none (by omega)]
    rw [decide_eq_true (Tx.eq_iff.2 ⟨this, h1, h2⟩)]
end Go.Wm

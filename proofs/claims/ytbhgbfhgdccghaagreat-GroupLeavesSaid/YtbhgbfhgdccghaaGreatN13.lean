/-
  Those that go, the program's: less, Leave, Tick. Conditions: that what is handed in reads as data.
-/
import Derived.Test.YtbhgbfhgdccghaaGreatN12
set_option linter.all false
namespace Go.Wm
open Go.RowKit Go.Proofs
def roundW (g : Group) : Group := { g with gen := IntKind.i64.wrap (g.gen + 1), l := g.l.map unjoin }
theorem roundW_eq {g : Group} (h0 : 0 ≤ g.gen) (h1 : g.gen ≤ 1048576) : roundW g = roundG g := by
  unfold roundW roundG
  rw [show IntKind.i64.wrap (g.gen + 1) = g.gen + 1 by rw [IntKind.wrap_i64]; omega]
def lessW (g : Group) (f : Member → Bool) (e : Int) : Group × Int :=
  if (decide ((g.l.filter fun m => !f m).length < g.l.length) && (decide (0 < (g.l.filter fun m => !f m).length) && (g.state == 2))) = true
  then toldG (roundW { g with l := g.l.filter fun m => !f m }) (wantE e (decide (g.gen < 1048576)) 2)
  else toldG { g with l := g.l.filter fun m => !f m } e
theorem lessW_ne {g : Group} {f : Member → Bool} {e : Int} (h : e ≠ 0) : lessW g f e = (noG, e) := by
  unfold lessW
  rw [wantE_ne h]
  split <;> exact toldG_ne h
theorem lessW_eq {g : Group} {f : Member → Bool} (h : ChkG g) : lessW g f 0 = lessG g (g.l.filter fun m => !f m) := by
  unfold lessW lessG
  by_cases hc : (g.l.filter fun m => !f m).length < g.l.length ∧ 0 < (g.l.filter fun m => !f m).length ∧ g.state = 2
  · rw [if_pos hc, if_pos (by rw [decide_eq_true hc.1, decide_eq_true hc.2.1, show (g.state == 2) = true by simp [hc.2.2]]; rfl), roundW_eq (g := { g with l := g.l.filter fun m => !f m }) h.gen0 h.gen1]
    by_cases hg : g.gen < 1048576
    · rw [if_pos hg, show decide (g.gen < 1048576) = true by simp [hg], wantE_t]; rfl
    · rw [if_neg hg, show decide (g.gen < 1048576) = false by simp [hg], wantE_f]; rfl
  · rw [if_neg hc, if_neg (fun hh => hc (by
      simp only [Bool.and_eq_true, decide_eq_true_eq, beq_iff_eq] at hh
      exact hh))]
    rfl
section
variable {P : Program} {o : Oper} {e : Env} {k : PH}
theorem d_addW {t t' : TypeId} {x y : Operand} {a b : Int} (hop : o.op = .binOp .add t x y t') (hx : opv e x = some (.int .i64 a)) (hy : opv e y = some (.int .i64 b)) : Det P e k o (.int .i64 (IntKind.i64.wrap (a + b))) := by
  intro ev w hev _
  rw [hop] at hev
  simp [execOp, hop, hev x (by simp [Op.operands]) _ hx, hev y (by simp [Op.operands]) _ hy, eqGuard, binOp, Op.intArith]
end
attribute [local irreducible] RG CG EG WA Loc Det Alc CT Exit.then Exit.inBlock Code.wp bodyPost
set_option maxHeartbeats 2000000 in
theorem deleteFuncBMem_ct {N : Nat} {h k : PH} {v : Value} {css : List (List Value)} {l : List Member} {g : FuncId} [FnOk Tryz.prog g] {cap : Array Value} (f : Member → Bool) (hrow : Row N k 44 6 v l.length css.flatten) (hp : Pieces tMember h css l) (hle : Le h k) (hap : Apart h v)
    (hf : ∀ k0, Le h k0 → ∀ x cm, tMember.rep k0 cm x → CT Tryz.prog g (#[] ++ [.agg cm.toArray].toArray ++ cap) k0 (fun _ v => v = .bool (f x))) :
    CTM Tryz.prog 90 #[v, .func (.func g) #[] cap] k (fun b => v.ownBlock = some b) (fun k' u => ∃ css', Row N k' 44 6 u (l.filter fun x => !f x).length css'.flatten ∧ Pieces tMember h css' (l.filter fun x => !f x) ∧ Le h k' ∧ Apart h u ∧ ∀ g, u.ownBlock = some g → v.ownBlock = some g) := by
  refine ctm_of_body (l := [_, _]) Tryz.func90 rfl Tryz.ntmps90 (by simp) fun F hF0 hFm hlt0 => ?_
  obtain ⟨a, c, rfl, hsl⟩ := Row.sls hrow (hp.le hle)
  have b1 := hsl.cap; have b2 := hsl.max; unfold maxLen at b2
  have hidx := indexFuncMem_ct hsl f (fun m hm cm hcm => hf k hle m cm hcm)
  repeat (first | refine cg_seq ?_ | refine cg_region ?_ | refine rg_nil ?_ | refine eg_then ?_ | refine qsp ?_)
  refine rs rfl rfl (loc_call_is rfl rfl rfl rfl (hidx)) ?_
  repeat (first | refine cg_seq ?_ | refine cg_region ?_ | refine rg_nil ?_ | refine eg_then ?_ | refine qsp ?_)
  rcases idxF_cases l f with ⟨hx, hno⟩ | ⟨i0, hi0, hx, hyes, hno⟩
  · rw [hx]
    repeat (first | refine cg_seq ?_ | refine cg_region ?_ | refine rg_nil ?_ | refine eg_then ?_ | refine qsp ?_ | refine cg_cond_true rfl ?_ | refine cg_ret ?_ | refine eg_then_ret ?_)
    refine eg_return rfl rfl ⟨css, ?_⟩
    have : l.filter (fun x => !f x) = l := List.filter_eq_self.2 fun x hx => by rw [hno x hx]; rfl
    rw [this]
    exact ⟨hrow, hp, hle, hap, fun g hg => hg⟩
  · rw [hx]
    have hcl0 : ∀ y ∈ css, y.length = 6 := hp.len
    have hcll : css.length = l.length := hp.1
    obtain ⟨g0, cap0, cur0, hv0, hN0, hg0, _⟩ : ∃ g cap cur, Value.slice a l.length c = .slice (some ⟨g, 0, none⟩) l.length cap ∧ N ≤ g ∧ k g = some (.cells cur 44 (0, 0)) ∧ True := by
      obtain ⟨g, cap, cur, e1, e2, e3, _⟩ := hrow.el (i := i0) hcl0 (List.getElem?_eq_getElem (by omega)) (by decide)
      exact ⟨g, cap, cur, e1, e2, e3, trivial⟩
    simp only [Value.slice.injEq, true_and] at hv0
    obtain ⟨rfl, rfl⟩ := hv0
    have hmu : F.mu g0 := by rw [hFm]; rfl
    have hh0 : h g0 = none := hap g0 rfl
    have hlt := hlt0 g0 _ hg0
    have tk : ∀ j, (hj : j < l.length) → (l.take (j + 1)).filter (fun x => !f x) = (l.take j).filter (fun x => !f x) ++ (if f l[j] then [] else [l[j]]) := fun j hj => by
      rw [List.take_succ_eq_append_getElem hj, List.filter_append]
      congr 1
      cases e : f l[j] <;> simp [e]
    have e1 : (l.take (i0 + 1)).filter (fun x => !f x) = l.take i0 := by
      rw [tk i0 hi0, hyes]
      simp
      exact fun x hx => by simpa using hno x hx
    have e2 : (l.take i0).length = i0 := by rw [List.length_take]; omega
    repeat (first | refine cg_seq ?_ | refine cg_region ?_ | refine rg_nil ?_ | refine eg_then ?_ | refine qsp ?_ | refine qsa ?_ | refine cg_cond_false rfl ?_ | refine cg_skip ?_ | refine cg_block ?_)
    refine cg_loop (fun (j : Nat) e k' => ∃ cs', (∀ y ∈ cs', y.length = 6) ∧ cs'.length = l.length ∧ Row N k' 44 6 (.slice (some ⟨g0, 0, none⟩) l.length c) l.length cs'.flatten ∧ Pieces tMember h (cs'.take ((l.take j).filter fun x => !f x).length) ((l.take j).filter fun x => !f x) ∧ (∀ q, j ≤ q → cs'[q]? = css[q]?) ∧ Le h k' ∧ ((l.take j).filter fun x => !f x).length < j ∧ j ≤ l.length ∧
        e = [(0, .is (.slice (some ⟨g0, 0, none⟩) l.length c)), (1, .is (.func (.func g) #[] cap)), (5, .is (.int .i64 (((l.take j).filter fun x => !f x).length : Nat))), (6, .is (.int .i64 (j : Int)))])
      (fun j => l.length - j) (i0 + 1) ⟨css, hcl0, hcll, hrow, ?_, fun _ _ => rfl, hle, ?_, hi0, rfl⟩ ⟨rfl, rfl, ?_, rfl, trivial⟩ ?_
    · rw [e1, e2]
      refine ⟨by simp; omega, fun q cs x h1 h2 => ?_⟩
      rw [List.getElem?_take] at h1 h2
      split at h1
      · rename_i hq
        rw [if_pos hq] at h2
        exact hp.2 q cs x h1 h2
      · cases h1
    · rw [e1, e2]; omega
    · rw [e1, e2]; rfl
    · rintro j e k1 ⟨cs', hal, hcl, hrow1, hp1, hq1, hle1, hij, hj, rfl⟩
      obtain ⟨m, hm⟩ : ∃ m, ((l.take j).filter fun x => !f x).length = m := ⟨_, rfl⟩
      rw [hm] at hp1 hij ⊢
      repeat (first | refine cg_seq ?_ | refine cg_region ?_ | refine rg_nil ?_ | refine eg_then ?_ | refine qsp ?_ | refine qsn ?_)
      refine cg_cond rfl (fun hc => ?_) (fun hc => ?_)
      · have hlj : j < l.length := by simpa using hc
        obtain ⟨x, hxj⟩ : ∃ x, l[j] = x := ⟨_, rfl⟩
        have htk := tk j hlj
        rw [hxj] at htk
        have hcj : cs'[j]? = some css[j] := by rw [hq1 j (Nat.le_refl _)]; exact List.getElem?_eq_getElem (by omega)
        have hrep := hp.2 j _ x (List.getElem?_eq_getElem (by omega)) (by rw [List.getElem?_eq_getElem hlj, hxj])
        obtain ⟨cx, hcx⟩ : ∃ cx, css[j] = cx := ⟨_, rfl⟩
        rw [hcx] at hcj hrep
        have hcxl := tMember.len hrep
        have hone := Member.one h cx x hrep
        obtain ⟨g', cap', cur, hv1, hN1, hg1, _, hmc, _, hcel, _⟩ := hrow1.el hal hcj (by decide)
        simp only [Value.slice.injEq, true_and, Option.some.injEq, Addr.mk.injEq, and_true] at hv1
        obtain ⟨rfl, rfl⟩ := hv1
        repeat (first | refine cg_seq ?_ | refine cg_region ?_ | refine eg_then ?_ | refine qsp ?_ | refine qsi ?_ | refine cg_skip ?_ | refine cg_block ?_)
        refine rs rfl rfl (loc_det rfl (d_load_agg (vs := cx) rfl rfl rfl hcxl hcel)) ?_
        refine rb rfl rfl rfl rfl (a_alloc rfl) ?_; intro b7 k7 hb7 hN7 hle7 hk7
        refine rw1 rfl rfl rfl rfl rfl rfl hcxl hk7 (by rw [hcxl]; rfl) (.inl hN7) hone ?_
        intro k8 ht8 hk8
        have c8 := cells_at (vs := cx) hk8 rfl
        have hle8 : Le k1 k8 := ht8 k1 hle7 hb7
        have n7 := some_ne hg1 hb7
        have hcall := hf k8 (hle1.trans hle8) x cx (tMember.mono (hle1.trans hle8) hrep)
        repeat (first | refine cg_seq ?_ | refine cg_region ?_ | refine rg_nil ?_ | refine eg_then ?_ | refine qsp ?_)
        refine rs rfl rfl (loc_det rfl (d_load_agg (vs := cx) rfl rfl rfl hcxl c8)) ?_
        refine rs rfl rfl (loc_call_is rfl rfl rfl rfl (hcall)) ?_
        repeat (first | refine rg_nil ?_ | refine eg_then ?_ | refine qsp ?_)
        have hml : m < l.length := by omega
        cases hfx : f x
        · rw [hfx] at htk
          simp only [Bool.false_eq_true, if_false] at htk
          have hcm : cs'[m]? = some cs'[m] := List.getElem?_eq_getElem (by omega)
          obtain ⟨g', cap', cur2, hv1, hN2, hg2, _, _, hsz2, _, hset⟩ := (hrow1.le hle8).el hal hcm (by decide)
          simp only [Value.slice.injEq, true_and, Option.some.injEq, Addr.mk.injEq, and_true] at hv1
          obtain ⟨rfl, rfl⟩ := hv1
          repeat (first | refine cg_seq ?_ | refine cg_region ?_ | refine qsp ?_ | refine cg_cond_true rfl ?_)
          refine rs rfl rfl (loc_det rfl (d_load_agg (vs := cx) rfl rfl rfl hcxl c8)) ?_
          refine rs rfl rfl (loc_det rfl (d_idx rfl rfl rfl hml)) ?_
          refine rst_agg rfl rfl rfl rfl rfl rfl hone hcxl hg2 (by rw [hcxl]; exact hsz2) (.inr hmu) ?_
          have hrow9 := hset _ cx hcxl (upd_same k8 g0 (.cells (cur2.toList.take (0 + m * 6) ++ cx ++ cur2.toList.drop (0 + m * 6 + cx.length)).toArray 44 (0, 0)))
          have hle9 := (hle1.trans hle8).upd (b := g0) (o := (.cells (cur2.toList.take (0 + m * 6) ++ cx ++ cur2.toList.drop (0 + m * 6 + cx.length)).toArray 44 (0, 0))) hh0
          generalize upd k8 g0 (.cells (cur2.toList.take (0 + m * 6) ++ cx ++ cur2.toList.drop (0 + m * 6 + cx.length)).toArray 44 (0, 0)) = k9 at hrow9 hle9 ⊢
          repeat (first | refine cg_region ?_ | refine rg_nil ?_ | refine eg_then ?_ | refine qsp ?_ | refine qsa ?_ | refine eg_in_normal ?_)
          have htl : ((l.take (j + 1)).filter fun x => !f x).length = m + 1 := by rw [htk, List.length_append, hm]; rfl
          have hst : (cs'.set m cx).take (m + 1) = cs'.take m ++ [cx] := by
            rw [List.take_succ_eq_append_getElem (by simp; omega), List.take_set_of_le (Nat.le_refl _)]
            simp
          refine eg_again (j + 1) _ ⟨cs'.set m cx, ?_, by simp [hcl], hrow9, ?_, ?_, hle9, by omega, hlj, rfl⟩ (by omega) ⟨rfl, rfl, ?_, rfl, trivial⟩
          · intro y hy
            rcases List.mem_or_eq_of_mem_set hy with hy | rfl
            · exact hal y hy
            · exact hcxl
          · rw [htl, hst, htk]
            exact hp1.append (Pieces.one hrep)
          · intro q hq
            rw [List.getElem?_set_ne (by omega)]
            exact hq1 q (by omega)
          · rw [htl]; rfl
        · rw [hfx] at htk
          simp only [if_true, List.append_nil] at htk
          repeat (first | refine cg_region ?_ | refine rg_nil ?_ | refine eg_then ?_ | refine qsp ?_ | refine qsa ?_ | refine cg_cond_false rfl ?_ | refine cg_skip ?_ | refine eg_in_normal ?_)
          refine eg_again (j + 1) _ ⟨cs', hal, hcl, hrow1.le hle8, by rw [htk, hm]; exact hp1, fun q hq => hq1 q (by omega), hle1.trans hle8, by rw [htk, hm]; omega, hlj, rfl⟩ (by omega) ⟨rfl, rfl, ?_, rfl, trivial⟩
          rw [htk, hm]; rfl
      · have hje : j = l.length := by simp at hc; omega
        subst hje
        rw [List.take_length] at hm hp1
        have hml : m ≤ l.length := by omega
        obtain ⟨_, hrow1'⟩ := hrow1.own.resolve_left (by simp)
        obtain ⟨cap', cur, hv1, hN1, hg1, hmc, hmx, hcs, htk⟩ := hrow1'
        simp only [Value.slice.injEq, true_and, Option.some.injEq, Addr.mk.injEq, and_true] at hv1
        obtain ⟨rfl, rfl⟩ := hv1
        repeat (first | refine cg_seq ?_ | refine cg_region ?_ | refine eg_then ?_ | refine qsp ?_ | refine cg_exit ?_ | refine eg_then_exit ?_ | refine eg_in_exit ?_)
        refine rs rfl rfl (loc_det rfl (d_suf_row rfl rfl rfl hml hmc)) ?_
        refine r_clear (i := m) (m := l.length) (cap := c) rfl rfl rfl rfl rfl hml hmc hg1 hcs rfl (by decide) (.inr hmu) ?_
        intro k2 cur2 ht2 hk2 hs2 htk2
        repeat (first | refine cg_seq ?_ | refine cg_region ?_ | refine rg_nil ?_ | refine eg_then ?_ | refine qsp ?_)
        refine rs rfl rfl (loc_det rfl (d_pre_row rfl rfl rfl hml hmc)) ?_
        repeat (first | refine rg_nil ?_ | refine eg_then ?_ | refine qsp ?_ | refine cg_ret ?_)
        refine eg_return rfl rfl ⟨cs'.take m, ?_, by rw [← hm] at hp1 ⊢; exact hp1, ht2 h hle1 hh0, fun g hg => by simp [Value.ownBlock] at hg; subst hg; exact hh0, fun g hg => hg⟩
        have hle3 : m * 6 ≤ l.length * 6 := Nat.mul_le_mul_right _ hml
        rw [hm]
        refine ⟨?_, .inr ⟨g0, c, cur2, rfl, hN1, hk2, by omega, hmx, hs2.trans hcs, ?_⟩⟩
        · rw [flat_len _ (fun y hy => hal y (List.mem_of_mem_take hy)), List.length_take, hcl, Nat.min_eq_left hml]
        · rw [htk2, flat_take cs' m hal, ← htk, List.take_take, Nat.min_eq_left hle3]

set_option maxHeartbeats 400000 in
theorem want_ctm0 {N : Nat} {KK k : PH} {bk : Nat} {v : Value} {g : Group} {e : Int} (h : KeepAt0 N KK k bk v g e) (b : Bool) (er : Int) :
    CTM Tryz.prog 25 #[.pointer (some ⟨bk, 0, none⟩), .bool b, .int .i64 er] k (fun x => x = bk) (fun k' u => u = .tuple #[] ∧ KeepAt0 N KK k' bk v g (wantE e b er)) := by
  refine ctm_of_body (l := [_, _, _]) Tryz.func25 rfl Tryz.ntmps25 (by simp) fun F hF0 hFm hlt => ?_
  have c4 := (cells_at (vs := kCells g v e) h.at' rfl).one (i := 4) rfl
  repeat (first | refine cg_seq ?_ | refine cg_region ?_ | refine qsp ?_ | refine qsl ?_ | refine qsf ?_)
  cases q1 : (e == 0)
  · have : e ≠ 0 := by simpa using q1
    repeat (first | refine rg_nil ?_ | refine eg_then ?_ | refine qsp ?_ | refine qso ?_ | refine cg_cond_false rfl ?_ | refine cg_skip ?_)
    refine eg_done rfl ⟨rfl, ?_⟩
    unfold wantE; rw [if_neg (fun hh => this hh.1)]; exact h
  have q1 : e = 0 := by simpa using q1
  cases b
  · repeat (first | refine cg_region ?_ | refine rg_nil ?_ | refine eg_then ?_ | refine qsp ?_ | refine qsf ?_ | refine cg_cond_true rfl ?_)
    refine rw0 rfl rfl rfl rfl rfl rfl rfl rfl h.at' (by show _ < 5; omega) (.inr (by rw [hFm])) ?_; intro k2 ht2 hk2
    repeat (first | refine rg_nil ?_)
    refine eg_done rfl ⟨rfl, ?_⟩
    unfold wantE; rw [if_pos ⟨q1, rfl⟩]
    exact h.turn ht2 hk2 rfl
  · repeat (first | refine rg_nil ?_ | refine eg_then ?_ | refine qsp ?_ | refine cg_cond_false rfl ?_ | refine cg_skip ?_)
    refine eg_done rfl ⟨rfl, ?_⟩
    unfold wantE; rw [if_neg (fun hh => by cases hh.2)]; exact h
set_option maxHeartbeats 1000000 in
theorem round_ctm0 {N : Nat} {KK k : PH} {bk : Nat} {v : Value} {g : Group} {e : Int} (h : KeepAt0 N KK k bk v g e) (hg : I64 g.gen) :
    CTM Tryz.prog 58 #[.pointer (some ⟨bk, 0, none⟩)] k (fun x => x = bk ∨ v.ownBlock = some x) (fun k' u => u = .tuple #[] ∧ KeepAt0 N KK k' bk v (roundW g) (wantE e (decide (g.gen < 1048576)) 2)) := by
  refine ctm_of_body (l := [_]) Tryz.func58 rfl Tryz.ntmps58 (by simp) fun F hF0 hFm hlt => ?_
  unfold I64 at hg
  have om : F.w0.heap.size ≤ bk ∨ F.mu bk := .inr (by rw [hFm]; exact .inl rfl)
  have c1 := (cells_at (vs := kCells g v e) h.at' rfl).one (i := 1) rfl
  repeat (first | refine cg_seq ?_ | refine cg_region ?_ | refine qsp ?_ | refine qsl ?_ | refine qsf ?_)
  refine rcm rfl rfl rfl rfl rfl rfl rfl (want_ctm0 h (decide (g.gen < 1048576)) 2) (fun b hb => by rw [hb]; exact om) ?_
  rintro _ k2 _ ⟨rfl, h2⟩
  generalize wantE e (decide (g.gen < 1048576)) 2 = e2 at h2 ⊢
  have c1 := (cells_at (vs := kCells g v e2) h2.at' rfl).one (i := 1) rfl
  repeat (first | refine cg_seq ?_ | refine cg_region ?_ | refine rg_nil ?_ | refine eg_then ?_ | refine qsp ?_ | refine qsl ?_ | refine qsf ?_)
  refine rs rfl rfl (loc_det rfl (d_addW rfl rfl rfl)) ?_
  repeat (first | refine qsp ?_ | refine qsf ?_)
  refine rw0 rfl rfl rfl rfl rfl rfl rfl rfl h2.at' (by show _ < 5; omega) om ?_; intro k3 ht3 hk3
  have h3 : KeepAt0 N KK k3 bk v { g with gen := IntKind.i64.wrap (g.gen + 1) } e2 := h2.turn ht3 hk3 rfl
  obtain ⟨a, c, rfl, hsl⟩ := h3.sl
  have b1 := hsl.cap; have b2 := hsl.max; unfold maxLen at b2
  have c3 := (cells_at (vs := kCells { g with gen := IntKind.i64.wrap (g.gen + 1) } (.slice a g.l.length c) e2) h3.at' rfl).one (i := 3) rfl
  dsimp only at c3 b1 b2
  clear c1 hk3 ht3
  repeat (first | refine cg_seq ?_ | refine cg_region ?_ | refine rg_nil ?_ | refine eg_then ?_ | refine qsp ?_ | refine qsn ?_ | refine qsl ?_ | refine qsf ?_ | refine cg_block ?_)
  refine cg_loop (fun (i : Nat) e k' => KeepAt0 N KK k' bk (.slice a g.l.length c) { g with gen := IntKind.i64.wrap (g.gen + 1), l := curU g.l i } e2 ∧ i ≤ g.l.length ∧ e = [(0, .is (.pointer (some ⟨bk, 0, none⟩))), (25, .is (.int .i64 (g.l.length : Int))), (26, .is (.int .i64 (i : Int)))])
    (fun i => g.l.length - i) 0 ⟨by rw [curU_zero]; exact h3, Nat.zero_le _, rfl⟩ ⟨rfl, rfl, rfl, trivial⟩ ?_
  rintro i e k4 ⟨h4, hi, rfl⟩
  repeat (first | refine cg_seq ?_ | refine cg_region ?_ | refine rg_nil ?_ | refine eg_then ?_ | refine qsp ?_)
  refine cg_cond rfl (fun h => ?_) (fun h => ?_)
  rotate_left
  · have hil : i = g.l.length := by have := of_decide_eq_false h; omega
    rw [hil, curU_end] at h4
    repeat (first | refine cg_exit ?_ | refine eg_then_exit ?_ | refine eg_in_exit ?_)
    exact eg_done rfl ⟨rfl, h4⟩
  have hlt' : i < g.l.length := by have := of_decide_eq_true h; omega
  obtain ⟨css, u1, u2⟩ := h4.row
  dsimp only at u1 u2
  rw [curU_len] at u2
  have hcl : css.length = g.l.length := by rw [u1.1, curU_len]
  have hcs := List.getElem?_eq_getElem (show i < css.length by omega)
  obtain ⟨a0, c0, a1, c1, hce, hsl4, hmok⟩ := u1.2 i _ _ hcs (curU_at hlt')
  rw [hce] at hcs
  obtain ⟨gb, cap, cur, hve, hgN, hkg, hglt, hcg, hset⟩ := Row.cell (i := i) (j := 4) (cs := g.l[i].cs a0 c0 a1 c1) u2 (fun y hy => u1.len y hy) hcs (by omega)
  cases hve
  have hne : gb ≠ bk := fun e => by rw [e, h4.at'] at hkg; cases hkg
  have hKg : KK gb = none := h4.ap gb rfl
  have ck := (cells_at (vs := kCells { g with gen := IntKind.i64.wrap (g.gen + 1), l := curU g.l i } (.slice (some ⟨gb, 0, none⟩) g.l.length c) e2) h4.at' rfl).one (i := 3) rfl
  repeat (first | refine cg_seq ?_ | refine cg_region ?_ | refine rg_nil ?_ | refine eg_then ?_ | refine qsp ?_ | refine qsi ?_ | refine qsl ?_ | refine qsf ?_ | refine cg_skip ?_ | refine cg_block ?_)
  refine rw0 rfl rfl rfl rfl rfl rfl rfl rfl hkg (show 0 + i * 6 + 4 < cur.size by omega) (.inr (by rw [hFm]; exact .inr rfl)) ?_; intro k5 ht5 hk5
  have hrow5 := hset k5 (.bool false) ht5 (by rw [hk5]; simp)
  repeat (first | refine cg_region ?_ | refine rg_nil ?_ | refine eg_then ?_ | refine qsp ?_ | refine qsa ?_ | refine eg_in_normal ?_)
  refine eg_again (i + 1) _ ⟨⟨turn1_get ht5 (Ne.symm hne) h4.at', h4.nb, ht5 KK h4.le hKg, h4.kb, h4.ap, css.set i ((g.l[i].cs a0 c0 a1 c1).set 4 (.bool false)), ?_, ?_⟩, hlt', rfl⟩ (by omega) ⟨rfl, rfl, rfl, trivial⟩
  · dsimp only
    rw [curU_succ hlt']
    exact u1.set i ⟨a0, c0, a1, c1, rfl, hsl4, hmok⟩
  · dsimp only
    rw [curU_len]
    exact hrow5
set_option maxHeartbeats 2000000 in
theorem less_ctm {N : Nat} {KK k : PH} {bk : Nat} {v : Value} {g : Group} {e : Int} (h : KeepAt0 N KK k bk v g e) (hg : I64 g.gen) {fg : FuncId} [FnOk Tryz.prog fg] {cap : Array Value} (f : Member → Bool) (hf : ∀ k0, Le KK k0 → ∀ x cm, tMember.rep k0 cm x → CT Tryz.prog fg (#[] ++ [.agg cm.toArray].toArray ++ cap) k0 (fun _ v => v = .bool (f x))) :
    CTM Tryz.prog 43 #[.pointer (some ⟨bk, 0, none⟩), .func (.func fg) #[] cap] k (fun x => x = bk ∨ v.ownBlock = some x) (GrpR N KK (lessW g f e)) := by
  refine ctm_of_body (l := [_, _]) Tryz.func43 rfl Tryz.ntmps43 (by simp) fun F hF0 hFm hlt => ?_
  have om : ∀ b, b = bk → F.w0.heap.size ≤ b ∨ F.mu b := fun b hb => .inr (by rw [hFm]; exact .inl hb)
  have ov : ∀ b, v.ownBlock = some b → F.w0.heap.size ≤ b ∨ F.mu b := fun b hb => .inr (by rw [hFm]; exact .inr hb)
  repeat (first | refine cg_seq ?_ | refine cg_region ?_)
  refine rb rfl rfl rfl rfl (a_alloc rfl) ?_; intro b4 k4 hb4 hN4 hle4 hk4
  have n4 : ¬ b4 = bk := fun e => by have := h.at'; rw [← e, hb4] at this; cases this
  have hK4 : KK b4 = none := by
    cases hc : KK b4 with
    | none => rfl
    | some ob => have := h.le _ _ hc; rw [hb4] at this; cases this
  have h := h.up hle4
  obtain ⟨css, u1, u2⟩ := h.row
  have nv4 : v.ownBlock ≠ some b4 := fun e => by obtain ⟨c, hc⟩ := u2.typ e; rw [hk4] at hc; simp at hc
  have nvk : v.ownBlock ≠ some bk := fun e => by obtain ⟨c, hc⟩ := u2.typ e; rw [h.at'] at hc; simp at hc
  obtain ⟨a, c, rfl, hsl⟩ := h.sl
  have b1 := hsl.cap; have b2 := hsl.max; unfold maxLen at b2
  have c3 := (cells_at (vs := kCells g (.slice a g.l.length c) e) h.at' rfl).one (i := 3) rfl
  repeat (first | refine cg_seq ?_ | refine cg_region ?_ | refine rg_nil ?_ | refine eg_then ?_ | refine qsp ?_ | refine qsn ?_ | refine qsl ?_ | refine qsf ?_)
  refine rcm rfl rfl rfl rfl rfl rfl rfl (deleteFuncBMem_ct (h := KK) f u2 u1 h.le h.ap hf) ov ?_
  rintro v5 k5 hle5 ⟨css5, w2, w1, hK5, hap5, hsame⟩
  have bk5 := le_one hle5 h.at' nvk
  have r5 := le_one hle5 hk4 nv4
  have ov5 : ∀ b, v5.ownBlock = some b → F.w0.heap.size ≤ b ∨ F.mu b := fun b hb => ov b (hsame b hb)
  clear c3 hle5
  repeat (first | refine qsp ?_ | refine qsf ?_)
  refine rw0 rfl rfl rfl rfl rfl rfl w2.oneV1 rfl bk5 (by show _ < 5; omega) (om bk rfl) ?_; intro k6 ht6 hk6
  have h6 : KeepAt0 N KK k6 bk v5 { g with l := g.l.filter fun m => !f m } e := ⟨hk6, h.nb, ht6 KK hK5 h.kb, h.kb, hap5, css5, w1, w2.turnY ht6 bk5 (by decide)⟩
  have r6 := turn1_get ht6 n4 r5
  obtain ⟨a6, c6', rfl, hsl6⟩ := h6.sl
  have c3 := (cells_at (vs := kCells { g with l := g.l.filter fun m => !f m } (.slice a6 (g.l.filter fun m => !f m).length c6') e) h6.at' rfl).one (i := 3) rfl
  have c2 := (cells_at (vs := kCells { g with l := g.l.filter fun m => !f m } (.slice a6 (g.l.filter fun m => !f m).length c6') e) h6.at' rfl).one (i := 2) rfl
  have hflen : (g.l.filter fun m => !f m).length ≤ g.l.length := List.length_filter_le _ _
  have nv6 : (Value.slice a6 (g.l.filter fun m => !f m).length c6').ownBlock ≠ some b4 := fun e => nv4 (hsame _ e)
  obtain ⟨m, hm⟩ : ∃ m, (g.l.filter fun m => !f m).length = m := ⟨_, rfl⟩
  have z1 : decide (((g.l.filter fun m => !f m).length : Int) < (g.l.length : Int)) = decide ((g.l.filter fun m => !f m).length < g.l.length) := by rw [decide_eq_decide]; omega
  have z2 : decide (((g.l.filter fun m => !f m).length : Int) > 0) = decide (0 < (g.l.filter fun m => !f m).length) := by rw [decide_eq_decide]; omega
  have noW : (decide ((g.l.filter fun m => !f m).length < g.l.length) && (decide (0 < (g.l.filter fun m => !f m).length) && (g.state == 2))) = false → toldG { g with l := g.l.filter fun m => !f m } e = lessW g f e := fun hh => by unfold lessW; rw [if_neg (by rw [hh]; simp)]
  have yesW : (decide ((g.l.filter fun m => !f m).length < g.l.length) && (decide (0 < (g.l.filter fun m => !f m).length) && (g.state == 2))) = true → toldG (roundW { g with l := g.l.filter fun m => !f m }) (wantE e (decide (g.gen < 1048576)) 2) = lessW g f e := fun hh => by unfold lessW; rw [if_pos hh]
  have hK := h6
  have rK := r6
  repeat (first | refine cg_seq ?_ | refine cg_region ?_ | refine rg_nil ?_ | refine eg_then ?_ | refine qsp ?_ | refine qsn ?_ | refine qsl ?_ | refine qsf ?_)
  rw [z1]
  cases q1 : decide ((g.l.filter fun m => !f m).length < g.l.length)
  · have hto := noW (by rw [q1]; rfl)
    repeat (first | refine cg_seq ?_ | refine cg_region ?_ | refine rg_nil ?_ | refine eg_then ?_ | refine qsp ?_ | refine qso ?_ | refine cg_cond_false rfl ?_ | refine cg_skip ?_)
    refine rcm rfl rfl rfl rfl rfl rfl rfl (told_ctm hK) om ?_
    rintro _ k9 hle9 ⟨a9, c9, css9, rfl, hp9, hr9⟩
    rw [hto] at hp9 hr9 ⊢
    have r9 := le_one hle9 rK n4
    repeat (first | refine qsp ?_)
    refine rw1 (vs := (lessW g f e).1.cs a9 c9) rfl rfl rfl rfl rfl rfl rfl r9 rfl (.inl hN4) (by simp [Group.cs, Value.oneCell']) ?_
    intro k10 ht10 hk10
    repeat (first | refine rg_nil ?_ | refine eg_then ?_ | refine qsp ?_ | refine cg_ret ?_)
    exact eg_returnC2 rfl rfl rfl rfl (cells_at (vs := (lessW g f e).1.cs a9 c9) hk10 rfl) rfl ⟨a9, c9, css9, rfl, hp9, hr9.turnY ht10 r9 (by decide)⟩
  repeat (first | refine qsp ?_ | refine qsn ?_ | refine qsl ?_ | refine qsf ?_)
  rw [z2]
  cases q2 : decide (0 < (g.l.filter fun m => !f m).length)
  · have hto := noW (by rw [q1, q2]; rfl)
    repeat (first | refine cg_seq ?_ | refine cg_region ?_ | refine rg_nil ?_ | refine eg_then ?_ | refine qsp ?_ | refine qso ?_ | refine cg_cond_false rfl ?_ | refine cg_skip ?_)
    refine rcm rfl rfl rfl rfl rfl rfl rfl (told_ctm hK) om ?_
    rintro _ k9 hle9 ⟨a9, c9, css9, rfl, hp9, hr9⟩
    rw [hto] at hp9 hr9 ⊢
    have r9 := le_one hle9 rK n4
    repeat (first | refine qsp ?_)
    refine rw1 (vs := (lessW g f e).1.cs a9 c9) rfl rfl rfl rfl rfl rfl rfl r9 rfl (.inl hN4) (by simp [Group.cs, Value.oneCell']) ?_
    intro k10 ht10 hk10
    repeat (first | refine rg_nil ?_ | refine eg_then ?_ | refine qsp ?_ | refine cg_ret ?_)
    exact eg_returnC2 rfl rfl rfl rfl (cells_at (vs := (lessW g f e).1.cs a9 c9) hk10 rfl) rfl ⟨a9, c9, css9, rfl, hp9, hr9.turnY ht10 r9 (by decide)⟩
  repeat (first | refine rg_nil ?_ | refine eg_then ?_ | refine qsp ?_ | refine qsl ?_ | refine qsf ?_)
  cases q3 : (g.state == 2)
  · have hto := noW (by rw [q1, q2, q3]; rfl)
    repeat (first | refine cg_seq ?_ | refine cg_region ?_ | refine eg_then ?_ | refine qsp ?_ | refine cg_cond_false rfl ?_ | refine cg_skip ?_)
    refine rcm rfl rfl rfl rfl rfl rfl rfl (told_ctm hK) om ?_
    rintro _ k9 hle9 ⟨a9, c9, css9, rfl, hp9, hr9⟩
    rw [hto] at hp9 hr9 ⊢
    have r9 := le_one hle9 rK n4
    repeat (first | refine qsp ?_)
    refine rw1 (vs := (lessW g f e).1.cs a9 c9) rfl rfl rfl rfl rfl rfl rfl r9 rfl (.inl hN4) (by simp [Group.cs, Value.oneCell']) ?_
    intro k10 ht10 hk10
    repeat (first | refine rg_nil ?_ | refine eg_then ?_ | refine qsp ?_ | refine cg_ret ?_)
    exact eg_returnC2 rfl rfl rfl rfl (cells_at (vs := (lessW g f e).1.cs a9 c9) hk10 rfl) rfl ⟨a9, c9, css9, rfl, hp9, hr9.turnY ht10 r9 (by decide)⟩
  have hto := yesW (by rw [q1, q2, q3]; rfl)
  clear hK rK
  repeat (first | refine cg_region ?_ | refine qsp ?_ | refine cg_cond_true rfl ?_)
  refine rcm rfl rfl rfl rfl rfl rfl rfl (round_ctm0 h6 hg) (fun b hb => hb.elim (om b) (ov5 b)) ?_
  rintro _ k7 hle7 ⟨rfl, hK⟩
  have rK := le_one hle7 r6 (fun hb => hb.elim (fun e => n4 e) fun e => nv6 e)
  repeat (first | refine cg_seq ?_ | refine cg_region ?_ | refine rg_nil ?_ | refine eg_then ?_ | refine qsp ?_)
  refine rcm rfl rfl rfl rfl rfl rfl rfl (told_ctm hK) om ?_
  rintro _ k9 hle9 ⟨a9, c9, css9, rfl, hp9, hr9⟩
  rw [hto] at hp9 hr9 ⊢
  have r9 := le_one hle9 rK n4
  repeat (first | refine qsp ?_)
  refine rw1 (vs := (lessW g f e).1.cs a9 c9) rfl rfl rfl rfl rfl rfl rfl r9 rfl (.inl hN4) (by simp [Group.cs, Value.oneCell']) ?_
  intro k10 ht10 hk10
  repeat (first | refine rg_nil ?_ | refine eg_then ?_ | refine qsp ?_ | refine cg_ret ?_)
  exact eg_returnC2 rfl rfl rfl rfl (cells_at (vs := (lessW g f e).1.cs a9 c9) hk10 rfl) rfl ⟨a9, c9, css9, rfl, hp9, hr9.turnY ht10 r9 (by decide)⟩
end Go.Wm

/-
  What Join needs: lists of topics alike, its two closures, a member taken out whatever its cells are, less that is known. Conditions: that what is handed in reads as data.
-/
import Derived.Test.YtbhgbfhgdccghaaGreatN9
set_option linter.all false
namespace Go.Wm
open Go.RowKit Go.Proofs
/-- A member's cells, whatever they are. -/
abbrev RawM := List Value
def tRaw : Ty RawM where
  sz := 6
  rep := fun _ cs x => cs = x ∧ x.length = 6 ∧ ∀ u ∈ x, u.oneCell' = true
  len := fun ⟨h, h2, _⟩ => by rw [h]; exact h2
  mono := fun _ h => h
theorem RawM.one (k : PH) (cs : List Value) (x : RawM) (h : tRaw.rep k cs x) : ∀ u ∈ cs, u.oneCell' = true := by
  rw [h.1]; exact h.2.2
theorem raw_pieces {k h : PH} {css : List (List Value)} {l : List Member} (hp : Pieces tMember h css l) : Pieces tRaw k css css := ⟨rfl, fun i cs x h1 h2 => by
  rw [h1] at h2; cases h2
  have hi : i < l.length := by rw [← hp.1]; exact (List.getElem?_eq_some_iff.1 h1).1
  have hr := hp.2 i cs _ h1 (List.getElem?_eq_getElem hi)
  exact ⟨rfl, tMember.len hr, Member.one h cs _ hr⟩⟩
/-- All but some blocks. -/
noncomputable def cutH (k : PH) (p : Nat → Prop) : PH := fun b => @ite _ (p b) (Classical.propDecidable _) none (k b)
theorem cutH_le (k : PH) (p : Nat → Prop) : Le (cutH k p) k := fun b o h => by
  unfold cutH at h
  split at h
  · cases h
  · exact h
theorem cutH_no {k : PH} {p : Nat → Prop} {b : Nat} (h : p b) : cutH k p b = none := by unfold cutH; rw [if_pos h]
theorem cutH_at {k : PH} {p : Nat → Prop} {b : Nat} (h : ¬ p b) : cutH k p b = k b := by unfold cutH; rw [if_neg h]
theorem le_cut {h k : PH} {p : Nat → Prop} (hl : Le h k) (hp : ∀ b, p b → h b = none) : Le h (cutH k p) := fun b o hb => by
  rw [cutH_at (fun hh => by rw [hp b hh] at hb; cases hb)]
  exact hl b o hb
theorem MemRow.at {N : Nat} {k k' : PH} {cs : List Value} {m : Member} (h : MemRow N k cs m) (h1 : ∀ g, (cs.getD 3 undef).ownBlock = some g ∨ (cs.getD 2 undef).ownBlock = some g → k' g = k g) : MemRow N k' cs m := ⟨h.own.at fun g hg => h1 g (.inl hg), h.subs.at fun g hg => h1 g (.inr hg)⟩
theorem MemRow.cut {N : Nat} {k : PH} {p : Nat → Prop} {cs : List Value} {m : Member} (h : MemRow N k cs m) (hp : ∀ g, (cs.getD 3 undef).ownBlock = some g ∨ (cs.getD 2 undef).ownBlock = some g → ¬ p g) : MemRow N (cutH k p) cs m := h.at fun g hg => cutH_at (hp g hg)
theorem pcs_flat {α : Type} {T : Ty α} {f : α → List Value} {k : PH} {xs : List α} (hr : ∀ x ∈ xs, T.rep k (f x) x) : Pieces T k (xs.map f) xs := ⟨by simp, fun i cs x h1 h2 => by
  rw [List.getElem?_map, h2] at h1
  cases h1
  exact hr x (List.mem_of_getElem? h2)⟩
theorem row_sl_tp {N : Nat} {k : PH} {a : Option Addr} {c : Nat} {l : List Tp} (h : Row N k 53 3 (.slice a l.length c) l.length (l.flatMap Tp.vs)) (hok : ∀ t ∈ l, t.ok) : Sl tTp k a c l := by
  have h : Row N k 53 3 (.slice a l.length c) l.length (l.map Tp.vs).flatten := h
  obtain ⟨a', c', e', s'⟩ := h.sls (T := tTp) (pcs_flat fun x hx => ⟨rfl, hok x hx⟩)
  cases e'; exact s'
theorem row_sl_str {N : Nat} {k : PH} {a : Option Addr} {c : Nat} {l : List ByteArray} (h : Row N k 9 1 (.slice a l.length c) l.length (l.flatMap strV)) (hok : ∀ t ∈ l, t.size ≤ maxLen) : Sl tStr k a c l := by
  have h : Row N k 9 1 (.slice a l.length c) l.length (l.map strV).flatten := h
  obtain ⟨a', c', e', s'⟩ := h.sls (T := tStr) (pcs_flat fun x hx => ⟨rfl, hok x hx⟩)
  cases e'; exact s'
theorem sl_ok_tp {k : PH} {a : Option Addr} {c : Nat} {l : List Tp} (h : Sl tTp k a c l) : ∀ t ∈ l, t.ok := fun t ht => by
  obtain ⟨i, hi, rfl⟩ := List.getElem_of_mem ht
  obtain ⟨_, _, _, _, hr, _⟩ := h.el i _ (List.getElem?_eq_getElem hi)
  exact hr.2
theorem sl_ok_str {k : PH} {a : Option Addr} {c : Nat} {l : List ByteArray} (h : Sl tStr k a c l) : ∀ t ∈ l, t.size ≤ maxLen := fun t ht => by
  obtain ⟨i, hi, rfl⟩ := List.getElem_of_mem ht
  obtain ⟨_, _, _, _, hr, _⟩ := h.el i _ (List.getElem?_eq_getElem hi)
  exact hr.2
/-- A member whose lists are rows of the call's own reads as it should. -/
theorem MemRow.rep {N : Nat} {k h0 : PH} {cs : List Value} {m : Member} (h : MemRow N k cs m) (hr : tMember.rep h0 cs m) : tMember.rep k cs m := by
  obtain ⟨a0, c0, a1, c1, rfl, ⟨h1, h2⟩, h3⟩ := hr
  exact ⟨a0, c0, a1, c1, rfl, ⟨row_sl_str h.subs (sl_ok_str h1), row_sl_tp h.own (sl_ok_tp h2)⟩, h3⟩
theorem OwnsAt.pieces {N : Nat} {k h0 : PH} {css : List (List Value)} {l : List Member} (h : OwnsAt N k css l) (hp : Pieces tMember h0 css l) : Pieces tMember k css l := ⟨hp.1, fun i cs m h1 h2 => (h.rows i cs m h1 h2).rep (hp.2 i cs m h1 h2)⟩
theorem OwnsAt.cut {N : Nat} {k : PH} {p : Nat → Prop} {css : List (List Value)} {l : List Member} (h : OwnsAt N k css l) (hl : css.length = l.length) (hp : ∀ cs ∈ css, ∀ g, (cs.getD 3 undef).ownBlock = some g ∨ (cs.getD 2 undef).ownBlock = some g → ¬ p g) : OwnsAt N (cutH k p) css l := ⟨fun i cs m h1 h2 => (h.rows i cs m h1 h2).cut (hp cs (List.mem_of_getElem? h1)), h.ne⟩
theorem OwnsAt.del {N : Nat} {k : PH} {css : List (List Value)} {l : List Member} (h : OwnsAt N k css l) (hl : css.length = l.length) (i : Nat) : OwnsAt N k (css.take i ++ css.drop (i + 1)) (delM i l) := by
  refine ⟨fun j cs m h1 h2 => ?_, h.ne.sublist ?_⟩
  · unfold delM at h2
    by_cases hj : j < i
    · by_cases hjl : j < l.length
      · rw [List.getElem?_append_left (by rw [List.length_take]; omega), List.getElem?_take, if_pos hj] at h1 h2
        exact h.rows j cs m h1 h2
      · rw [List.getElem?_append_right (by rw [List.length_take]; omega), List.getElem?_drop] at h1
        rw [List.getElem?_eq_none (by rw [List.length_take]; omega)] at h1; cases h1
    · by_cases hil : i ≤ l.length
      · rw [List.getElem?_append_right (by rw [List.length_take]; omega), List.getElem?_drop, List.length_take] at h1 h2
        rw [show min i css.length = i by omega] at h1
        rw [show min i l.length = i by omega] at h2
        exact h.rows _ cs m h1 h2
      · rw [List.getElem?_append_right (by rw [List.length_take]; omega), List.getElem?_drop, List.length_take] at h1
        rw [List.getElem?_eq_none (by omega)] at h1; cases h1
  · rw [← List.eraseIdx_eq_take_drop_succ]
    exact List.eraseIdx_sublist _ _
theorem OwnsAt.typ {N : Nat} {k : PH} {css : List (List Value)} {l : List Member} (h : OwnsAt N k css l) (hl : css.length = l.length) {cs : List Value} (hc : cs ∈ css) {g : Nat} (hg : (cs.getD 3 undef).ownBlock = some g ∨ (cs.getD 2 undef).ownBlock = some g) : ∃ c et fr, k g = some (.cells c et fr) ∧ (et = 53 ∨ et = 9) := by
  obtain ⟨i, hi, rfl⟩ := List.getElem_of_mem hc
  have hr := h.rows i _ _ (List.getElem?_eq_getElem hi) (List.getElem?_eq_getElem (by omega))
  rcases hg with hg | hg
  · rcases hr.own.own with ⟨e, _⟩ | ⟨g', cap, cur, e, _, hk, _⟩
    · rw [e] at hg; simp [Value.ownBlock] at hg
    · rw [e] at hg; simp [Value.ownBlock] at hg; subst hg
      exact ⟨_, _, _, hk, .inl rfl⟩
  · rcases hr.subs.own with ⟨e, _⟩ | ⟨g', cap, cur, e, _, hk, _⟩
    · rw [e] at hg; simp [Value.ownBlock] at hg
    · rw [e] at hg; simp [Value.ownBlock] at hg; subst hg
      exact ⟨_, _, _, hk, .inr rfl⟩
theorem metOf_filter (a b : List Tp) : (a.filter fun t => !(!decide (t ∈ b))) = metOf a b := by
  unfold metOf
  congr 1
  funext t
  rw [Bool.not_not]
attribute [local irreducible] RG CG EG WA Loc Det Alc CT Exit.then Exit.inBlock Code.wp bodyPost
set_option maxHeartbeats 1000000 in
theorem deleteRaw_ct {N : Nat} {h k : PH} {v : Value} {css : List (List Value)} {l : List RawM} {i j : Nat} (hrow : Row N k 44 6 v l.length css.flatten) (hp : Pieces tRaw h css l) (hle : Le h k) (hap : Apart h v) (hij : i ≤ j) (hj : j ≤ l.length) :
    CTM Tryz.prog 54 #[v, .int .i64 (i : Int), .int .i64 (j : Int)] k (fun b => v.ownBlock = some b) (fun k' u => Row N k' 44 6 u (l.take i ++ l.drop j).length (css.take i ++ css.drop j).flatten ∧ Pieces tRaw h (css.take i ++ css.drop j) (l.take i ++ l.drop j) ∧ Le h k' ∧ Apart h u) := by
  refine ctm_of_body (l := [_, _, _]) Tryz.func54 rfl Tryz.ntmps54 (by simp) fun F hF0 hFm hlt0 => ?_
  obtain ⟨a, c, rfl, hsl⟩ := Row.sls hrow (hp.le hle)
  have b1 := hsl.cap; have b2 := hsl.max; unfold maxLen at b2
  have hall : ∀ y ∈ css, y.length = 6 := hp.len
  have hcl : css.length = l.length := hp.1
  repeat (first | refine cg_seq ?_ | refine cg_region ?_ | refine rg_nil ?_ | refine eg_then ?_ | refine qsp ?_ | refine qsn ?_)
  refine rs rfl rfl (loc_det rfl (d_sl3 rfl rfl rfl rfl rfl hij hj (by omega) hsl.nil)) ?_
  repeat (first | refine cg_seq ?_ | refine cg_region ?_ | refine rg_nil ?_ | refine eg_then ?_ | refine qsp ?_)
  refine cg_cond rfl (fun hc => ?_) (fun hc => ?_)
  · have e : i = j := by simp at hc; omega
    subst e
    repeat (first | refine cg_seq ?_ | refine cg_region ?_ | refine rg_nil ?_ | refine eg_then ?_ | refine qsp ?_ | refine cg_ret ?_ | refine eg_then_ret ?_)
    refine eg_return rfl rfl ?_
    rw [List.take_append_drop, List.take_append_drop]
    exact ⟨hrow, hp, hle, hap⟩
  have hne : i ≠ j := by simp at hc; omega
  rcases hrow.own with ⟨e, e0, _⟩ | ⟨g, cap, cur, e, hNg, hkg, hmc, hcm, hsz, htk⟩
  · omega
  simp only [Value.slice.injEq, true_and] at e
  obtain ⟨rfl, rfl⟩ := e
  have hmu : F.mu g := by rw [hFm]; rfl
  have hcl2 : cur.toList.length = c * 6 := by simpa using hsz
  have hlc : l.length * 6 ≤ c * 6 := Nat.mul_le_mul_right _ hmc
  obtain ⟨d1, d2, d3⟩ := del_room (sz := 6) hall hcl hij hj (by rw [hcl2]; exact hlc) htk
  obtain ⟨q, hq, hcq⟩ : ∃ q, shiftA c j 6 (some ⟨g, 0, none⟩) = some ⟨g, q, none⟩ ∧ Cells k g q (css.drop j).flatten := by
    by_cases hcj : c = j
    · refine ⟨0, by simp [shiftA, hcj], cur, _, _, hkg, fun p u hu => ?_⟩
      have : (css.drop j).flatten.length = 0 := by rw [d1, show l.length - j = 0 by omega, Nat.zero_mul]
      rw [List.length_eq_zero_iff.1 this] at hu
      simp at hu
    · exact ⟨0 + j * 6, by simp [shiftA, hcj, addr_add], cells_drop hkg htk hall hcl hj⟩
  have hone : ∀ u ∈ (css.drop j).flatten, u.oneCell' = true := fun u hu => by
    obtain ⟨cs, hcs, hu⟩ := List.mem_flatten.1 hu
    have hcs' := List.mem_of_mem_drop hcs
    obtain ⟨p, hp', rfl⟩ := List.getElem_of_mem hcs'
    exact RawM.one h _ (l[p]'(by omega)) (hp.2 p _ _ (List.getElem?_eq_getElem hp') (List.getElem?_eq_getElem (by omega))) u hu
  repeat (first | refine cg_seq ?_ | refine cg_region ?_ | refine rg_nil ?_ | refine eg_then ?_ | refine qsp ?_ | refine qsn ?_ | refine cg_skip ?_)
  refine cg_fresh 6 [] (by kernel_rfl) (by kernel_rfl) rfl rfl rfl ?_
  dsimp only [List.take]
  repeat (first | refine qfp ?_)
  refine fs_s rfl (loc_det rfl (d_pre_row rfl rfl rfl (by omega : i ≤ l.length) hmc)) rfl ?_
  repeat (first | refine qfp ?_)
  refine fs_s rfl (loc_det rfl (d_suf_row rfl rfl rfl hj hmc)) rfl ?_
  refine fs_nil ?_
  intro k2 vs hle2 _ _ _
  rw [hq]
  dsimp only [List.drop, nameE, nameP]
  refine r_appRoom rfl rfl rfl rfl rfl rfl rfl (hle2 _ _ hkg) (hcq.le hle2) d1 (by omega) hsz hone (.inr hmu) ?_
  intro k3 ht3 hk3
  repeat (first | refine cg_seq ?_ | refine cg_region ?_ | refine rg_nil ?_ | refine eg_then ?_ | refine qsp ?_ | refine qsn ?_)
  have hh0 : h g = none := hap g rfl
  have hle3 : Le h k3 := ht3 h (hle.trans hle2) hh0
  refine rs rfl rfl (loc_det rfl (d_part (l := some (i + (l.length - j))) (h := some l.length) rfl rfl ⟨_, rfl⟩ ⟨_, rfl⟩ (by show i + (l.length - j) ≤ l.length; omega) (by show l.length ≤ c; omega) (by omega) (by simp))) ?_
  simp only [ob]
  refine r_clear (i := i + (l.length - j)) rfl rfl rfl rfl rfl (by omega) hmc hk3 (by rw [← hsz]; simpa using d3) rfl (by decide) (.inr hmu) ?_
  intro k4 cur4 ht4 hk4 hs4 htk4
  repeat (first | refine cg_seq ?_ | refine cg_region ?_ | refine rg_nil ?_ | refine eg_then ?_ | refine qsp ?_ | refine cg_ret ?_)
  have hn : (l.take i ++ l.drop j).length = i + (l.length - j) := by
    rw [List.length_append, List.length_take, List.length_drop]; omega
  have hp2 : Pieces tRaw h (css.take i ++ css.drop j) (l.take i ++ l.drop j) := (hp.take i).append (hp.drop j)
  refine eg_return rfl rfl ?_
  rw [hn]
  refine ⟨⟨?_, .inr ⟨g, c, cur4, rfl, hNg, hk4, by omega, hcm, ?_, ?_⟩⟩, hp2, ht4 h hle3 hh0, fun g' hg' => ?_⟩
  · rw [flat_len _ hp2.len, hp2.1, hn]
    rfl
  · rw [hs4, ← hsz]; simpa using d3
  · rw [htk4]; simpa using d2
  · simp [Value.ownBlock] at hg'
    subst hg'
    exact hh0

set_option maxHeartbeats 400000 in
theorem equalStr_ct {k : PH} {a b : Option Addr} {ca cb : Nat} {xs ys : List ByteArray} (hx : Sl tStr k a ca xs) (hy : Sl tStr k b cb ys) :
    CT Tryz.prog 57 #[.slice a xs.length ca, .slice b ys.length cb] k (fun _ v => v = .bool (decide (xs = ys))) := by
  refine ct_of_body (l := [_, _]) Tryz.func57 rfl Tryz.ntmps57 (by simp) (fun _ _ _ _ h => h) fun F hF0 hFm => ?_
  have b1 := hx.cap; have b2 := hx.max; unfold maxLen at b2
  repeat (first | refine cg_seq ?_ | refine cg_region ?_ | refine rg_nil ?_ | refine eg_then ?_ | refine qsp ?_ | refine qsn ?_)
  refine cg_cond rfl (fun h => ?_) (fun h => ?_)
  · repeat (first | refine cg_seq ?_ | refine cg_region ?_ | refine rg_nil ?_ | refine eg_then ?_ | refine qsp ?_ | refine cg_ret ?_ | refine eg_then_ret ?_)
    refine eg_return rfl rfl ?_
    have : xs ≠ ys := by rintro rfl; simp at h
    simp [this]
  · have hlen : xs.length = ys.length := by
      simp at h; omega
    repeat (first | refine cg_seq ?_ | refine cg_region ?_ | refine rg_nil ?_ | refine eg_then ?_ | refine qsp ?_ | refine qsn ?_ | refine cg_skip ?_ | refine cg_block ?_)
    refine cg_loop (fun (i : Nat) e k' => k' = k ∧ i ≤ xs.length ∧ (∀ j, j < i → xs[j]? = ys[j]?) ∧ e = [(0, .is (.slice a xs.length ca)), (1, .is (.slice b ys.length cb)), (12, .is (.int .i64 (xs.length : Int))), (13, .is (.int .i64 (i : Int)))])
      (fun i => xs.length - i) 0 ⟨rfl, Nat.zero_le _, fun j hj => by omega, rfl⟩ ⟨rfl, rfl, rfl, rfl, trivial⟩ ?_
    rintro i e k1 ⟨rfl, hi, heq, rfl⟩
    repeat (first | refine cg_seq ?_ | refine cg_region ?_ | refine rg_nil ?_ | refine eg_then ?_ | refine qsp ?_)
    refine cg_cond rfl (fun h => ?_) (fun h => ?_)
    · have hlt : i < xs.length := by simpa using h
      have hlt2 : i < ys.length := by omega
      obtain ⟨bx, ox, cx, rfl, ⟨rfl, _⟩, hcx⟩ := hx.el i xs[i] (List.getElem?_eq_getElem hlt)
      obtain ⟨by', oy, cy, rfl, ⟨rfl, _⟩, hcy⟩ := hy.el i ys[i] (List.getElem?_eq_getElem hlt2)
      repeat (first | refine cg_seq ?_ | refine cg_region ?_ | refine rg_nil ?_ | refine eg_then ?_ | refine qsp ?_ | refine cg_skip ?_ | refine cg_block ?_)
      refine cg_any (by kernel_rfl) rfl ?_
      repeat (first | refine qwp ?_ | refine qwi ?_ | refine qwl ?_ | (refine wn rfl ?_; refine eg_then ?_))
      refine cg_cond rfl (fun h => ?_) (fun h => ?_)
      · repeat (first | refine cg_seq ?_ | refine cg_region ?_ | refine rg_nil ?_ | refine eg_then ?_ | refine qsp ?_ | refine cg_ret ?_ | refine eg_then_ret ?_ | refine eg_in_ret ?_)
        refine eg_return rfl rfl ?_
        have : xs ≠ ys := by
          rintro rfl
          simp at h
        simp [this]
      · repeat (first | refine cg_region ?_ | refine rg_nil ?_ | refine eg_then ?_ | refine qsp ?_ | refine qsa ?_ | refine cg_skip ?_ | refine eg_in_normal ?_)
        refine eg_again (i + 1) _ ⟨rfl, hlt, fun j hj => ?_, rfl⟩ (by omega) ⟨rfl, rfl, rfl, rfl, trivial⟩
        by_cases hji : j = i
        · subst hji
          rw [List.getElem?_eq_getElem hlt, List.getElem?_eq_getElem hlt2]
          simp at h
          rw [h]
        · exact heq j (by omega)
    · repeat (first | refine cg_seq ?_ | refine cg_region ?_ | refine rg_nil ?_ | refine eg_then ?_ | refine qsp ?_ | refine cg_ret ?_ | refine cg_exit ?_ | refine eg_then_exit ?_ | refine eg_in_exit ?_)
      refine eg_return rfl rfl ?_
      have hix : i = xs.length := by simp at h; omega
      have : xs = ys := by
        apply List.ext_getElem?
        intro j
        by_cases hj : j < xs.length
        · exact heq j (by omega)
        · rw [List.getElem?_eq_none (by omega), List.getElem?_eq_none (by omega)]
      simp [this]
theorem join1_ct {k : PH} {b4 : Nat} {m : Member} {a0 a1 : Option Addr} {c0 c1 : Nat} (h4 : Cells k b4 0 (m.cs a0 c0 a1 c1)) (ho : Sl tTp k a1 c1 m.own) (t : Tp) : CT Tryz.prog 52 #[.agg t.vs.toArray, .pointer (some ⟨b4, 0, none⟩)] k (fun _ v => v = .bool (!decide (t ∈ m.own))) := by
  refine ct_of_body (l := [_, _]) Tryz.func52 rfl Tryz.ntmps52 (by simp) (fun _ _ _ _ h => h) fun F hF0 hFm => ?_
  repeat (first | refine cg_seq ?_ | refine cg_region ?_)
  refine rb rfl rfl rfl rfl (a_box rfl rfl) ?_; intro b2 k2 hb2 hN2 hle2 hk2
  obtain ⟨p0, p1, p2, p3, p4, p5⟩ := Member.parts (h4.le hle2)
  have c2 := cells_at (vs := t.vs) hk2 rfl
  have ho := ho.le hle2
  repeat (first | refine cg_seq ?_ | refine cg_region ?_ | refine rg_nil ?_ | refine eg_then ?_ | refine qsp ?_ | refine qsl ?_ | refine qsg ?_ | refine qsf ?_)
  refine rs rfl rfl (loc_call_is rfl rfl rfl rfl (containsTp_ct ho t)) ?_
  repeat (first | refine rg_nil ?_ | refine eg_then ?_ | refine qsp ?_ | refine cg_ret ?_)
  exact eg_return rfl rfl rfl
theorem join2_ct {k : PH} {b4 : Nat} {m x : Member} {cx : List Value} {a0 a1 : Option Addr} {c0 c1 : Nat} (h4 : Cells k b4 0 (m.cs a0 c0 a1 c1)) (hx : tMember.rep k cx x) : CT Tryz.prog 56 #[.agg cx.toArray, .pointer (some ⟨b4, 0, none⟩)] k (fun _ v => v = .bool (sameStat m.static x)) := by
  obtain ⟨d0, e0, d1, e1, rfl, _, _⟩ := hx
  refine ct_of_body (l := [_, _]) Tryz.func56 rfl Tryz.ntmps56 (by simp) (fun _ _ _ _ h => h) fun F hF0 hFm => ?_
  unfold sameStat
  repeat (first | refine cg_seq ?_ | refine cg_region ?_)
  refine rb rfl rfl rfl rfl (a_box rfl rfl) ?_; intro b2 k2 hb2 hN2 hle2 hk2
  obtain ⟨p0, p1, p2, p3, p4, p5⟩ := Member.parts (h4.le hle2)
  obtain ⟨r0, r1, r2, r3, r4, r5⟩ := Member.parts (cells_at (vs := x.cs d0 e0 d1 e1) hk2 rfl)
  repeat (first | refine cg_seq ?_ | refine cg_region ?_ | refine rg_nil ?_ | refine eg_then ?_ | refine qsp ?_ | refine qsl ?_ | refine qsf ?_)
  cases q : decide (m.static = ⟨#[]⟩)
  · repeat (first | refine rg_nil ?_ | refine eg_then ?_ | refine qsp ?_ | refine qsl ?_ | refine qsf ?_ | refine cg_ret ?_)
    exact eg_return rfl rfl rfl
  · repeat (first | refine rg_nil ?_ | refine eg_then ?_ | refine qsp ?_ | refine qso ?_ | refine cg_ret ?_)
    exact eg_return rfl rfl rfl
end Go.Wm

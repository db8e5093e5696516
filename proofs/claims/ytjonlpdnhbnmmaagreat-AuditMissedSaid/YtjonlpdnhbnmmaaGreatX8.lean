/-
  The library's Clone, Delete and Insert of those that are open. Conditions: that what is handed in lies in rows of the caller's own.
-/
import Derived.Test.YtjonlpdnhbnmmaaGreatX7
import Derived.Test.YtjonlpdnhbnmmaaGreatIns
set_option linter.all false
namespace Go.Wm
open Go.RowKit Go.Proofs
attribute [local irreducible] RG CG EG WA Loc Det Alc CT Exit.then Exit.inBlock Code.wp bodyPost

set_option maxHeartbeats 400000 in
theorem cloneOpen_ct {k : PH} {a : Option Addr} {c : Nat} {l : List OpenT} (hl : Sl tOpenT k a c l) (hb : l.length * 16 ≤ 140737488355328) :
    CTN Tryz.prog 66 #[.slice a l.length c] k (fun N k' v => ∃ css, Pieces tOpenT k css l ∧ Row N k' 72 2 v l.length css.flatten) := by
  refine ctn_of_body (l := [_]) Tryz.func66 rfl Tryz.ntmps66 (by simp) (fun N k k' v hle ⟨css, h1, h2⟩ => ⟨css, h1, h2.le hle⟩) fun F hF0 hFm => ?_
  have b1 := hl.cap; have b2 := hl.max; unfold maxLen at b2
  repeat (first | refine cg_seq ?_ | refine cg_region ?_ | refine rg_nil ?_ | refine eg_then ?_ | refine qsp ?_)
  refine rs rfl rfl (loc_det rfl (d_eqsl rfl rfl)) ?_
  cases a with
  | none =>
    have hc := hl.nil rfl
    have : l = [] := List.length_eq_zero_iff.1 (by omega)
    subst this
    repeat (first | refine cg_seq ?_ | refine cg_region ?_ | refine rg_nil ?_ | refine eg_then ?_ | refine qsp ?_ | refine cg_cond_true rfl ?_ | refine cg_ret ?_ | refine eg_then_ret ?_)
    exact eg_return rfl rfl ⟨[], Pieces.nil _ _, row_nil _ _ _ _⟩
  | some ad =>
    repeat (first | refine cg_seq ?_ | refine cg_region ?_ | refine rg_nil ?_ | refine eg_then ?_ | refine cg_cond_false rfl ?_ | refine cg_skip ?_)
    refine rb rfl rfl rfl rfl (a_empty rfl) ?_; intro b k2 hb2 hN2 hle2 hk2
    repeat (first | refine qsp ?_)
    refine raps2 (T := tOpenT) (sz := 2) (m := 0) (olds := []) rfl rfl rfl rfl rfl rfl rfl rfl (row_empty hN2 hk2) hl hle2 OpenT.one rfl rfl (by unfold maxLen; omega) (by omega) ?_
    intro v k3 css hp hrow ht
    repeat (first | refine rg_nil ?_ | refine eg_then ?_ | refine qsp ?_ | refine cg_ret ?_)
    refine eg_return rfl rfl ⟨css, hp, by simpa using hrow⟩

set_option maxHeartbeats 1000000 in
theorem deleteOpen_ct {N : Nat} {h k : PH} {v : Value} {css : List (List Value)} {l : List OpenT} {i j : Nat} (hrow : Row N k 72 2 v l.length css.flatten) (hp : Pieces tOpenT h css l) (hle : Le h k) (hap : Apart h v) (hij : i ≤ j) (hj : j ≤ l.length) :
    CTM Tryz.prog 67 #[v, .int .i64 (i : Int), .int .i64 (j : Int)] k (fun b => v.ownBlock = some b) (fun k' u => Row N k' 72 2 u (l.take i ++ l.drop j).length (css.take i ++ css.drop j).flatten ∧ Pieces tOpenT h (css.take i ++ css.drop j) (l.take i ++ l.drop j) ∧ Le h k' ∧ Apart h u) := by
  refine ctm_of_body (l := [_, _, _]) Tryz.func67 rfl Tryz.ntmps67 (by simp) fun F hF0 hFm hlt0 => ?_
  obtain ⟨a, c, rfl, hsl⟩ := Row.sls hrow (hp.le hle)
  have b1 := hsl.cap; have b2 := hsl.max; unfold maxLen at b2
  have hall : ∀ y ∈ css, y.length = 2 := hp.len
  have hcl : css.length = l.length := hp.1
  repeat (first | refine cg_seq ?_ | refine cg_region ?_ | refine rg_nil ?_ | refine eg_then ?_ | refine qsp ?_ | refine qsn ?_)
  refine rs rfl rfl (loc_det rfl (d_sl3 rfl rfl rfl rfl rfl hij hj (by omega) hsl.nil)) ?_
  repeat (first | refine cg_seq ?_ | refine cg_region ?_ | refine rg_nil ?_ | refine eg_then ?_ | refine qsp ?_)
  refine cg_cond rfl (fun hc => ?_) (fun hc => ?_)
  · have e : i = j := by simp at hc; omega
    subst e
    repeat (first | refine cg_seq ?_ | refine cg_region ?_ | refine rg_nil ?_ | refine eg_then ?_ | refine qsp ?_ | refine cg_ret ?_ | refine eg_then_ret ?_)
    refine eg_return rfl rfl ?_
    rw [List.take_append_drop, List.take_append_drop]
    exact ⟨hrow, hp, hle, hap⟩
  have hne : i ≠ j := by simp at hc; omega
  rcases hrow.own with ⟨e, e0, _⟩ | ⟨g, cap, cur, e, hNg, hkg, hmc, hcm, hsz, htk⟩
  · omega
  simp only [Value.slice.injEq, true_and] at e
  obtain ⟨rfl, rfl⟩ := e
  have hmu : F.mu g := by rw [hFm]; rfl
  have hcl2 : cur.toList.length = c * 2 := by simpa using hsz
  have hlc : l.length * 2 ≤ c * 2 := Nat.mul_le_mul_right _ hmc
  obtain ⟨d1, d2, d3⟩ := del_room (sz := 2) hall hcl hij hj (by rw [hcl2]; exact hlc) htk
  obtain ⟨q, hq, hcq⟩ : ∃ q, shiftA c j 2 (some ⟨g, 0, none⟩) = some ⟨g, q, none⟩ ∧ Cells k g q (css.drop j).flatten := by
    by_cases hcj : c = j
    · refine ⟨0, by simp [shiftA, hcj], cur, _, _, hkg, fun p u hu => ?_⟩
      have : (css.drop j).flatten.length = 0 := by rw [d1, show l.length - j = 0 by omega, Nat.zero_mul]
      rw [List.length_eq_zero_iff.1 this] at hu
      simp at hu
    · exact ⟨0 + j * 2, by simp [shiftA, hcj, addr_add], cells_drop hkg htk hall hcl hj⟩
  have hone : ∀ u ∈ (css.drop j).flatten, u.oneCell' = true := fun u hu => by
    obtain ⟨cs, hcs, hu⟩ := List.mem_flatten.1 hu
    have hcs' := List.mem_of_mem_drop hcs
    obtain ⟨p, hp', rfl⟩ := List.getElem_of_mem hcs'
    exact OpenT.one h _ (l[p]'(by omega)) (hp.2 p _ _ (List.getElem?_eq_getElem hp') (List.getElem?_eq_getElem (by omega))) u hu
  repeat (first | refine cg_seq ?_ | refine cg_region ?_ | refine rg_nil ?_ | refine eg_then ?_ | refine qsp ?_ | refine qsn ?_ | refine cg_skip ?_)
  refine cg_fresh 6 [] (by kernel_rfl) (by kernel_rfl) rfl rfl rfl ?_
  dsimp only [List.take]
  repeat (first | refine qfp ?_)
  refine fs_s rfl (loc_det rfl (d_pre_row rfl rfl rfl (by omega : i ≤ l.length) hmc)) rfl ?_
  repeat (first | refine qfp ?_)
  refine fs_s rfl (loc_det rfl (d_suf_row rfl rfl rfl hj hmc)) rfl ?_
  refine fs_nil ?_
  intro k2 vs hle2 _ _ _
  rw [hq]
  dsimp only [List.drop, nameE, nameP]
  refine r_appRoom rfl rfl rfl rfl rfl rfl rfl (hle2 _ _ hkg) (hcq.le hle2) d1 (by omega) hsz hone (.inr hmu) ?_
  intro k3 ht3 hk3
  repeat (first | refine cg_seq ?_ | refine cg_region ?_ | refine rg_nil ?_ | refine eg_then ?_ | refine qsp ?_ | refine qsn ?_)
  have hh0 : h g = none := hap g rfl
  have hle3 : Le h k3 := ht3 h (hle.trans hle2) hh0
  refine rs rfl rfl (loc_det rfl (d_part (l := some (i + (l.length - j))) (h := some l.length) rfl rfl ⟨_, rfl⟩ ⟨_, rfl⟩ (by show i + (l.length - j) ≤ l.length; omega) (by show l.length ≤ c; omega) (by omega) (by simp))) ?_
  simp only [ob]
  refine r_clear (i := i + (l.length - j)) rfl rfl rfl rfl rfl (by omega) hmc hk3 (by rw [← hsz]; simpa using d3) rfl (by decide) (.inr hmu) ?_
  intro k4 cur4 ht4 hk4 hs4 htk4
  repeat (first | refine cg_seq ?_ | refine cg_region ?_ | refine rg_nil ?_ | refine eg_then ?_ | refine qsp ?_ | refine cg_ret ?_)
  have hn : (l.take i ++ l.drop j).length = i + (l.length - j) := by
    rw [List.length_append, List.length_take, List.length_drop]; omega
  have hp2 : Pieces tOpenT h (css.take i ++ css.drop j) (l.take i ++ l.drop j) := (hp.take i).append (hp.drop j)
  refine eg_return rfl rfl ?_
  rw [hn]
  refine ⟨⟨?_, .inr ⟨g, c, cur4, rfl, hNg, hk4, by omega, hcm, ?_, ?_⟩⟩, hp2, ht4 h hle3 hh0, fun g' hg' => ?_⟩
  · rw [flat_len _ hp2.len, hp2.1, hn]
    rfl
  · rw [hs4, ← hsz]; simpa using d3
  · rw [htk4]; simpa using d2
  · simp [Value.ownBlock] at hg'
    subst hg'
    exact hh0

set_option maxHeartbeats 2000000 in
theorem insertOpen_ct {N : Nat} {h k : PH} {v : Value} {css : List (List Value)} {l : List OpenT} {i vb : Nat} {cm : List Value} {et' : TypeId} {x : OpenT} (hrow : Row N k 72 2 v l.length css.flatten) (hp : Pieces tOpenT h css l) (hle : Le h k) (hap : Apart h v) (hi : i ≤ l.length)
    (hx : k vb = some (.cells cm.toArray et' (0, 0))) (hcm : (tOpenT).rep h cm x) (hne : v.ownBlock ≠ some vb) (hb : l.length ≤ 1000000) :
    CTM Tryz.prog 65 #[v, .int .i64 (i : Int), .slice (some ⟨vb, 0, none⟩) 1 1] k (fun b => v.ownBlock = some b) (fun k' u => ∃ a' c', u = .slice a' (l.take i ++ x :: l.drop i).length c' ∧ Sl tOpenT k' a' c' (l.take i ++ x :: l.drop i) ∧ Le h k' ∧ ∀ ad, a' = some ad → v.ownBlock = some ad.block ∨ k ad.block = none) := by
  refine ctm_of_body (l := [_, _, _]) Tryz.func65 rfl Tryz.ntmps65 (by simp) fun F hF0 hFm hlt0 => ?_
  obtain ⟨a, c, rfl, hsl⟩ := Row.sls hrow (hp.le hle)
  have b1 := hsl.cap; have b2 := hsl.max; unfold maxLen at b2
  have hall : ∀ y ∈ css, y.length = 2 := hp.len
  have hcl : css.length = l.length := hp.1
  have hcml : cm.length = 2 := (tOpenT).len hcm
  have h1m : ∀ u ∈ cm, u.oneCell' = true := OpenT.one h cm x hcm
  have hcx : Cells k vb 0 cm := cells_at hx (by simp)
  have hp2 : Pieces tOpenT h (css.take i ++ cm :: css.drop i) (l.take i ++ x :: l.drop i) := hp.ins i hcm
  have hn2 : (l.take i ++ x :: l.drop i).length = l.length + 1 := by
    rw [List.length_append, List.length_take, List.length_cons, List.length_drop]; omega
  have hdone : ∀ u ∈ (css.drop i).flatten, u.oneCell' = true := fun u hu => by
    obtain ⟨cs, hcs, hu⟩ := List.mem_flatten.1 hu
    have hcs' := List.mem_of_mem_drop hcs
    obtain ⟨p, hp', rfl⟩ := List.getElem_of_mem hcs'
    exact OpenT.one h _ (l[p]'(by omega)) (hp.2 p _ _ (List.getElem?_eq_getElem hp') (List.getElem?_eq_getElem (by omega))) u hu
  rw [hn2]
  repeat (first | refine cg_seq ?_ | refine cg_region ?_ | refine rg_nil ?_ | refine eg_then ?_ | refine qsp ?_)
  refine rs rfl rfl (loc_det rfl (d_suf hsl rfl rfl rfl hi)) ?_
  repeat (first | refine cg_seq ?_ | refine cg_region ?_ | refine rg_nil ?_ | refine eg_then ?_ | refine qsp ?_ | refine qsn ?_ | refine cg_cond_false rfl ?_ | refine cg_skip ?_)
  refine cg_cond rfl (fun hc => ?_) (fun hc => ?_)
  · have e : i = l.length := by simp at hc; omega
    subst e
    have e1 : (css.take l.length ++ cm :: css.drop l.length).flatten = css.flatten ++ cm := by
      rw [← hcl, List.take_length, List.drop_length]; simp
    repeat (first | refine cg_seq ?_ | refine cg_region ?_ | refine qsp ?_)
    rcases hrow.own with ⟨e, e0, e2⟩ | ⟨g, cap, cur, e, hNg, hkg, hmc, hmx, hsz, htk⟩
    · simp only [Value.slice.injEq, true_and] at e
      obtain ⟨rfl, _, rfl⟩ := e
      refine r_appNew (xs := []) rfl rfl rfl rfl rfl rfl rfl (.inl rfl) (by rw [e0]; simp) (fun _ => rfl) hcx (by simpa using hcml) (by omega) rfl rfl (by omega) (by omega) (by unfold maxLen; omega) (by omega) ?_
      intro u k2 hrow2 hle2 hfr
      repeat (first | refine rg_nil ?_ | refine eg_then ?_ | refine qsp ?_ | refine cg_ret ?_ | refine eg_then_ret ?_)
      rw [show [] ++ cm = (css.take l.length ++ cm :: css.drop l.length).flatten by rw [e1, e2], ← hn2] at hrow2
      obtain ⟨a', c', rfl, hs'⟩ := Row.sls hrow2 (hp2.le (hle.trans hle2))
      rw [← hn2]
      exact eg_return rfl rfl ⟨a', c', rfl, hs', hle.trans hle2, fun ad e => .inr (hfr ad.block (by rw [e]; rfl))⟩
    simp only [Value.slice.injEq, true_and] at e
    obtain ⟨rfl, rfl⟩ := e
    have hmu : F.mu g := by rw [hFm]; rfl
    have hh0 : h g = none := hap g rfl
    have hcl2 : cur.toList.length = c * 2 := by simpa using hsz
    by_cases hroom : l.length + 1 ≤ c
    · refine r_appRoom rfl rfl rfl rfl rfl rfl rfl hkg hcx (by simpa using hcml) hroom hsz h1m (.inr hmu) ?_
      intro k2 ht2 hk2
      repeat (first | refine rg_nil ?_ | refine eg_then ?_ | refine qsp ?_ | refine cg_ret ?_ | refine eg_then_ret ?_)
      refine eg_return rfl rfl ⟨some ⟨g, 0, none⟩, c, rfl, ?_, ht2 h hle hh0, fun ad e => by cases e; exact .inl rfl⟩
      have hr1 : (l.length + 1) * 2 ≤ c * 2 := Nat.mul_le_mul_right _ hroom
      have hr2 : (l.length + 1) * 2 = l.length * 2 + 2 := Nat.succ_mul _ _
      refine sl_block hk2 (hp2.le (ht2 h hle hh0)) (by rw [hn2]; exact hroom) hmx ?_ ?_
      · show _ = c * 2
        simp only [List.size_toArray, List.length_append, List.length_take, List.length_drop, hcml]
        omega
      · rw [hn2, e1, ← htk]
        show List.take ((l.length + 1) * 2) _ = _
        rw [List.take_left' (by simp only [List.length_append, List.length_take, hcml]; omega)]
    · refine r_appNew rfl rfl rfl rfl rfl rfl rfl (.inr ⟨g, 0, rfl, cells_take hkg htk⟩) (by rw [flat_len _ hall, hcl]) (fun e => by cases e) hcx (by simpa using hcml) (by omega) rfl rfl hmc (by omega) (by unfold maxLen; omega) (by omega) ?_
      intro u k2 hrow2 hle2 hfr
      repeat (first | refine rg_nil ?_ | refine eg_then ?_ | refine qsp ?_ | refine cg_ret ?_ | refine eg_then_ret ?_)
      rw [← e1, ← hn2] at hrow2
      obtain ⟨a', c', rfl, hs'⟩ := Row.sls hrow2 (hp2.le (hle.trans hle2))
      rw [← hn2]
      exact eg_return rfl rfl ⟨a', c', rfl, hs', hle.trans hle2, fun ad e => .inr (hfr ad.block (by rw [e]; rfl))⟩
  have hin : i < l.length := by
    have : i ≠ l.length := by simp at hc; omega
    omega
  rcases hrow.own with ⟨e, e0, e2⟩ | ⟨g, cap, cur, e, hNg, hkg, hmc, hmx, hsz, htk⟩
  · omega
  simp only [Value.slice.injEq, true_and] at e
  obtain ⟨rfl, rfl⟩ := e
  have hmu : F.mu g := by rw [hFm]; rfl
  have hh0 : h g = none := hap g rfl
  have hcl2 : cur.toList.length = c * 2 := by simpa using hsz
  have hgv : vb ≠ g := fun e => hne (by rw [e]; rfl)
  have hci : ¬ c = i := by omega
  have hsh : shiftA c i 2 (some ⟨g, 0, none⟩) = some ⟨g, 0 + i * 2, none⟩ := by simp [shiftA, hci, addr_add]
  have hcd : Cells k g (0 + i * 2) (css.drop i).flatten := cells_drop hkg htk hall hcl hi
  repeat (first | refine cg_seq ?_ | refine cg_region ?_ | refine eg_then ?_ | refine qsp ?_ | refine qsa ?_ | refine cg_skip ?_)
  refine rs rfl rfl (loc_det rfl (d_cap rfl rfl)) ?_
  repeat (first | refine rg_nil ?_ | refine eg_then ?_ | refine qsp ?_)
  refine cg_cond rfl (fun hc2 => ?_) (fun hc2 => ?_)
  · have hgr : c < l.length + 1 := by simp at hc2; omega
    repeat (first | refine cg_seq ?_ | refine cg_region ?_ | refine qsp ?_)
    refine rs rfl rfl (loc_det rfl (d_pre_row rfl rfl rfl hi hmc)) ?_
    repeat (first | refine qsp ?_ | refine qsa ?_ | refine qss ?_)
    rw [show (l.length : Int) + ((1 : Nat) : Int) - (i : Int) = ((l.length + 1 - i : Nat) : Int) by omega]
    refine r_appZ (xs := (css.take i).flatten) rfl rfl rfl rfl rfl rfl rfl (.inr ⟨g, 0, rfl, cells_take hkg (by rw [flat_take css i hall, ← htk, List.take_take, Nat.min_eq_left (Nat.mul_le_mul_right _ hi)])⟩) (by rw [flat_len _ (fun y hy => hall y (List.mem_of_mem_take hy)), List.length_take, hcl]; congr 1; omega) (by omega) rfl rfl (by omega) (by unfold maxLen; omega) (by omega) ?_
    intro g2 cap2 cur2 k2 hN2 hn2k hle2 hk2 hc1 hc2' hsz2 htk2
    have em : i + (l.length + 1 - i) = l.length + 1 := by omega
    rw [em] at hc1
    rw [em]
    have hcl3 : cur2.toList.length = cap2 * 2 := by simpa using hsz2
    obtain ⟨cs1, hcs1⟩ : ∃ c1, c1 = cur2.toList.take (i * 2) ++ cm ++ cur2.toList.drop (i * 2 + cm.length) := ⟨_, rfl⟩
    obtain ⟨n1, n2, n3, n4⟩ := ins_new (sz := 2) hall hcl hi hcml (by rw [hcl3]; exact Nat.mul_le_mul_right _ hc1) htk2 hcs1
    have hl1 : (l.length + 1) * 2 ≤ cap2 * 2 := Nat.mul_le_mul_right _ hc1
    have hl2 : (i + 1) * 2 ≤ (l.length + 1) * 2 := Nat.mul_le_mul_right _ (by omega)
    have hl3 : (i + 1) * 2 = i * 2 + 2 := Nat.succ_mul _ _
    repeat (first | refine cg_seq ?_ | refine cg_region ?_ | refine rg_nil ?_ | refine eg_then ?_ | refine qsp ?_)
    refine rs rfl rfl (loc_det rfl (d_suf_row rfl rfl rfl (by omega) hc1)) ?_
    rw [show shiftA cap2 i 2 (some ⟨g2, 0, none⟩) = some ⟨g2, 0 + i * 2, none⟩ by simp [shiftA, show ¬ cap2 = i by omega, addr_add]]
    repeat (first | refine qsp ?_)
    refine r_copy (news := cm) rfl rfl rfl rfl rfl rfl hk2 (hcx.le hle2) (by rw [hcml]; rw [show Nat.min 1 (l.length + 1 - i) = 1 from Nat.min_eq_left (by omega)]) (by rw [hcml]; have : cur2.size = cap2 * 2 := hsz2; omega) h1m (.inl hN2) ?_
    intro k3 ht3 hk3
    have hg3 : k3 g = some (.cells cur 72 (0, 0)) := turn1_get ht3 (fun e => by rw [e] at hkg; rw [hkg] at hn2k; cases hn2k) (hle2 _ _ hkg)
    have hle3 : Le k k3 := ht3 k hle2 hn2k
    simp only [Nat.zero_add] at hk3
    rw [← hcs1] at hk3
    repeat (first | refine cg_seq ?_ | refine rg_nil ?_ | refine eg_then ?_)
    refine cg_fresh 8 [] (by kernel_rfl) (by kernel_rfl) rfl rfl rfl ?_
    dsimp only [List.take]
    repeat (first | refine qfp ?_ | refine qfa ?_)
    refine fs_s rfl (loc_det rfl (d_suf_row (i := i + 1) rfl rfl rfl (by omega) hc1)) rfl ?_
    repeat (first | refine qfp ?_)
    refine fs_s rfl (loc_det rfl (d_suf_row rfl rfl rfl hi hmc)) rfl ?_
    refine fs_nil ?_
    intro k4 vs hle4 _ _ _
    rw [hsh, show shiftA cap2 (i + 1) 2 (some ⟨g2, 0, none⟩) = some ⟨g2, 0 + (i + 1) * 2, none⟩ by simp [shiftA, show ¬ cap2 = i + 1 by omega, addr_add]]
    dsimp only [List.drop, nameE, nameP]
    refine r_copy (news := (css.drop i).flatten) rfl rfl rfl rfl rfl rfl (hle4 _ _ hk3) (hcd.le (hle3.trans hle4)) (by rw [n1]; rw [show Nat.min (l.length - i) (l.length + 1 - (i + 1)) = l.length - i from by rw [show l.length + 1 - (i + 1) = l.length - i by omega]; exact Nat.min_self _]) (by simpa using n2) hdone (.inl hN2) ?_
    intro k5 ht5 hk5
    simp only [Nat.zero_add] at hk5
    have hle5 : Le h k5 := (ht5 k (hle3.trans hle4) hn2k) |> hle.trans
    repeat (first | refine cg_seq ?_ | refine cg_region ?_ | refine rg_nil ?_ | refine eg_then ?_ | refine qsp ?_ | refine cg_ret ?_ | refine eg_then_ret ?_)
    refine eg_return rfl rfl ⟨some ⟨g2, 0, none⟩, cap2, rfl, ?_, hle5, fun ad e => by cases e; exact .inr hn2k⟩
    refine sl_block hk5 (hp2.le hle5) (by rw [hn2]; exact hc1) hc2' ?_ ?_
    · show _ = cap2 * 2
      rw [← hcl3, ← n3]
      simp only [List.size_toArray, List.length_append, List.length_take, List.length_drop]
      omega
    · rw [hn2]
      exact n4
  · have hroom : l.length + 1 ≤ c := by simp at hc2; omega
    obtain ⟨cs1, hcs1⟩ : ∃ c1, c1 = cur.toList.take ((i + 1) * 2) ++ (css.drop i).flatten ++ cur.toList.drop ((i + 1) * 2 + (css.drop i).flatten.length) := ⟨_, rfl⟩
    have hl1 : (l.length + 1) * 2 ≤ c * 2 := Nat.mul_le_mul_right _ hroom
    obtain ⟨n1, n2, n3, n4, n5⟩ := ins_room (sz := 2) hall hcl hi hcml (by rw [hcl2]; exact hl1) htk hcs1
    have hcsz : cur.size ≠ 0 := by rw [hsz]; omega
    repeat (first | refine cg_seq ?_ | refine cg_region ?_ | refine eg_then ?_ | refine qsp ?_ | refine qsa ?_ | refine cg_skip ?_)
    refine rs rfl rfl (loc_det rfl (d_part (l := none) (h := some (l.length + 1)) rfl rfl trivial ⟨_, rfl⟩ (Nat.zero_le _) hroom hmc (by simp))) ?_
    simp only [ob, Nat.sub_zero]
    rw [show shiftA c 0 2 (some (⟨g, 0, none⟩ : Addr)) = some ⟨g, 0, none⟩ by simp [shiftA, addr_add]]
    repeat (first | refine cg_seq ?_ | refine cg_region ?_ | refine rg_nil ?_ | refine eg_then ?_ | refine qsp ?_ | refine qsa ?_)
    refine rs rfl rfl (loc_det rfl (d_suf_row (i := i + 1) rfl rfl rfl (by omega) hroom)) ?_
    rw [show shiftA c (i + 1) 2 (some ⟨g, 0, none⟩) = (if c = i + 1 then some ⟨g, 0, none⟩ else some ⟨g, 0 + (i + 1) * 2, none⟩) by simp only [shiftA, Option.map_some, addr_add]; split <;> rfl]
    rw [if_neg (by omega)]
    refine rs rfl rfl (loc_det rfl (d_over (tS := 22) (tR := 4) rfl rfl rfl rfl Tryz.func92 (by kernel_rfl) (by kernel_rfl) (by kernel_rfl) (by kernel_rfl) hgv hkg hx hcsz)) ?_
    repeat (first | refine cg_seq ?_ | refine rg_nil ?_ | refine eg_then ?_ | refine qsp ?_ | refine cg_cond_true rfl ?_)
    refine cg_fresh 8 [] (by kernel_rfl) (by kernel_rfl) rfl rfl rfl ?_
    dsimp only [List.take]
    repeat (first | refine qfp ?_ | refine qfa ?_)
    refine fs_s rfl (loc_det rfl (d_suf_row (i := i + 1) rfl rfl rfl (by omega) hroom)) rfl ?_
    repeat (first | refine qfp ?_)
    refine fs_s rfl (loc_det rfl (d_suf_row rfl rfl rfl (by omega : i ≤ l.length + 1) hroom)) rfl ?_
    refine fs_nil ?_
    intro k2 vs hle2 _ _ _
    rw [hsh, show shiftA c (i + 1) 2 (some ⟨g, 0, none⟩) = some ⟨g, 0 + (i + 1) * 2, none⟩ by simp [shiftA, show ¬ c = i + 1 by omega, addr_add]]
    dsimp only [List.drop, nameE, nameP]
    refine r_copy (news := (css.drop i).flatten) rfl rfl rfl rfl rfl rfl (hle2 _ _ hkg) (hcd.le hle2) ?_ (by rw [← hcl2] at *; simpa using n2) hdone (.inr hmu) ?_
    · rw [n1]
      congr 1
      rw [show l.length + 1 - (i + 1) = l.length - i by omega]
      exact (Nat.min_eq_right (by omega)).symm
    intro k3 ht3 hk3
    simp only [Nat.zero_add] at hk3
    rw [← hcs1] at hk3
    have hx3 : k3 vb = some (.cells cm.toArray et' (0, 0)) := turn1_get ht3 hgv (hle2 _ _ hx)
    repeat (first | refine cg_seq ?_ | refine cg_region ?_ | refine rg_nil ?_ | refine eg_then ?_ | refine qsp ?_)
    refine rs rfl rfl (loc_det rfl (d_suf_row rfl rfl rfl (by omega : i ≤ l.length + 1) hroom)) ?_
    rw [hsh]
    repeat (first | refine qsp ?_)
    refine r_copy (news := cm) rfl rfl rfl rfl rfl rfl hk3 (cells_at hx3 (by simp)) (by rw [hcml]; rw [show Nat.min 1 (l.length + 1 - i) = 1 from Nat.min_eq_left (by omega)]) (by simpa using n4) h1m (.inr hmu) ?_
    intro k4 ht4 hk4
    simp only [Nat.zero_add] at hk4
    have hle3 : Le h k3 := ht3 h (hle.trans hle2) hh0
    have hle4 : Le h k4 := ht4 h hle3 hh0
    repeat (first | refine cg_seq ?_ | refine cg_region ?_ | refine rg_nil ?_ | refine eg_then ?_ | refine qsp ?_ | refine cg_ret ?_ | refine eg_then_ret ?_)
    refine eg_return rfl rfl ⟨some ⟨g, 0, none⟩, c, rfl, ?_, hle4, fun ad e => by cases e; exact .inl rfl⟩
    refine sl_block hk4 (hp2.le hle4) (by rw [hn2]; exact hroom) hmx ?_ ?_
    · show _ = c * 2
      rw [← hcl2, ← n3]
      simp only [List.size_toArray, List.length_append, List.length_take, List.length_drop]
      omega
    · rw [hn2]
      exact n5

end Go.Wm

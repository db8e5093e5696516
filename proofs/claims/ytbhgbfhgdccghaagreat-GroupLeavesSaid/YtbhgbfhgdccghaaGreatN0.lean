/-
  Slices of members and of partitions, Go's library. Conditions: that what is handed in reads as data.
-/
import Derived.Test.YtbhgbfhgdccghaaGreatS9
import Derived.Test.YtbhgbfhgdccghaaGreatP1
import Derived.Test.YtbhgbfhgdccghaaGreatSto2
set_option linter.all false
namespace Go.Wm
open Go.RowKit Go.Proofs
attribute [local irreducible] RG CG EG WA Loc Det Alc CT Exit.then Exit.inBlock Code.wp bodyPost
theorem ByteArray.one (k : PH) (cs : List Value) (x : ByteArray) (h : tStr.rep k cs x) : ∀ u ∈ cs, u.oneCell' = true := by
  rw [h.1]
  simp [Value.oneCell']
set_option maxHeartbeats 2000000 in
theorem binSearchWMem_ct {k : PH} {a : Option Addr} {c : Nat} {l : List Member} (hl : Sl tMember k a c l) (hb : l.length ≤ 1000000000000000) {g : FuncId} [FnOk Tryz.prog g] {cap : Array Value} (kv : Value) (f : Member → Int)
    (hf : ∀ k0, Le k k0 → ∀ m ∈ l, ∀ cm, (tMember).rep k0 cm m → CT Tryz.prog g (#[] ++ [.agg cm.toArray, kv].toArray ++ cap) k0 (fun _ v => v = .int .i64 (f m))) :
    CT Tryz.prog 67 #[.slice a l.length c, kv, .func (.func g) #[] cap] k (fun _ v => ∃ i : Nat, v = .tuple #[.int .i64 (i : Int), .bool (decide ((l[i]?).map f = some 0))] ∧ i ≤ l.length ∧ ((∀ i j, (hi : i < l.length) → (hj : j < l.length) → i < j → f l[j] < 0 → f l[i] < 0) → i = posF f l)) := by
  refine ct_of_body (l := [_, _, _]) Tryz.func67 rfl Tryz.ntmps67 (by simp) (fun _ _ _ _ h => h) fun F hF0 hFm => ?_
  have b1 := hl.cap; have b2 := hl.max; unfold maxLen at b2
  repeat (first | refine cg_seq ?_ | refine cg_region ?_ | refine rg_nil ?_ | refine eg_then ?_ | refine qsp ?_ | refine qsn ?_ | refine cg_block ?_)
  refine cg_loop (fun (m : Nat) e k' => ∃ i j : Nat, m = j - i ∧ Le k k' ∧ i ≤ j ∧ j ≤ l.length ∧ ((∀ i j, (hi : i < l.length) → (hj : j < l.length) → i < j → f l[j] < 0 → f l[i] < 0) → (∀ q, (h : q < l.length) → q < i → f l[q] < 0) ∧ (∀ q, (h : q < l.length) → j ≤ q → ¬ f l[q] < 0)) ∧ e = [(0, .is (.slice a l.length c)), (1, .is kv), (2, .is (.func (.func g) #[] cap)), (8, .is (.int .i64 (l.length : Int))), (9, .is (.int .i64 (i : Int))), (10, .is (.int .i64 (j : Int)))])
    (fun m => m) l.length ⟨0, l.length, rfl, Le.refl _, Nat.zero_le _, Nat.le_refl _, fun _ => ⟨fun q _ hq => by omega, fun q _ hq => by omega⟩, rfl⟩ ⟨rfl, rfl, rfl, rfl, rfl, rfl, trivial⟩ ?_
  rintro m e k1 ⟨i, j, rfl, hle, hij, hj, h12, rfl⟩
  repeat (first | refine cg_seq ?_ | refine cg_region ?_ | refine rg_nil ?_ | refine eg_then ?_ | refine qsp ?_)
  refine cg_cond rfl (fun h => ?_) (fun h => ?_)
  · have hlt : i < j := by simpa using h
    repeat (first | refine cg_seq ?_ | refine cg_region ?_ | refine eg_then ?_ | refine qsp ?_ | refine qsa ?_ | refine cg_skip ?_ | refine cg_block ?_)
    have e1 : IntKind.u64.wrap ((i : Int) + (j : Int)) = ((i + j : Nat) : Int) := by
      rw [← Int.natCast_add]; exact u64_halfB (by omega)
    refine rs rfl rfl (loc_det rfl (d_conv rfl rfl)) ?_
    rw [e1]
    refine rs rfl rfl (loc_det rfl (d_shrN (b := 1) rfl rfl rfl (by decide))) ?_
    have e2 : IntKind.i64.wrap (((i + j) / 2 ^ 1 : Nat) : Int) = (((i + j) / 2 : Nat) : Int) := by
      rw [Nat.pow_one]
      simp [IntKind.wrap, IntKind.signed, IntKind.bits]; omega
    refine rs rfl rfl (loc_det rfl (d_conv rfl rfl)) ?_
    rw [e2]
    obtain ⟨q, hq⟩ : ∃ q, q = (i + j) / 2 := ⟨_, rfl⟩
    rw [← hq]
    have hqi : i ≤ q := by omega
    have hqj : q < j := by omega
    have hql : q < l.length := by omega
    obtain ⟨bx, ox, cx, rfl, hrep, hcx⟩ := (hl.le hle).el q l[q] (List.getElem?_eq_getElem hql)
    have hcl := (tMember).len hrep
    have hcall := hf k1 hle l[q] (List.getElem_mem hql) cx hrep
    repeat (first | refine cg_seq ?_ | refine cg_region ?_ | refine rg_nil ?_ | refine eg_then ?_ | refine qsp ?_ | refine qsi ?_)
    refine rs rfl rfl (loc_det rfl (d_load_agg (vs := cx) rfl rfl rfl hcl hcx)) ?_
    repeat (first | refine qsp ?_)
    refine rs rfl rfl (loc_call_is rfl rfl rfl rfl (hcall)) ?_
    repeat (first | refine rg_nil ?_ | refine eg_then ?_ | refine qsp ?_)
    cases y : decide (f l[q] < 0)
    · repeat (first | refine cg_region ?_ | refine rg_nil ?_ | refine qsp ?_ | refine cg_cond_false rfl ?_ | refine eg_in_normal ?_)
      refine eg_again (q - i) _ ⟨i, q, rfl, hle, hqi, by omega, fun hs => ⟨(h12 hs).1, fun r hr hqr => ?_⟩, rfl⟩ (by omega) ⟨rfl, rfl, rfl, rfl, rfl, rfl, trivial⟩
      have hy : ¬ f l[q] < 0 := by simpa using y
      by_cases e : r = q
      · subst e; exact hy
      · exact fun hr0 => hy (hs q r hql hr (by omega) hr0)
    · repeat (first | refine cg_region ?_ | refine rg_nil ?_ | refine qsp ?_ | refine qsa ?_ | refine cg_cond_true rfl ?_ | refine eg_in_normal ?_)
      refine eg_again (j - (q + 1)) _ ⟨q + 1, j, rfl, hle, by omega, hj, fun hs => ⟨fun r hr hqr => ?_, (h12 hs).2⟩, rfl⟩ (by omega) ⟨rfl, rfl, rfl, rfl, rfl, rfl, trivial⟩
      have hy : f l[q] < 0 := by simpa using y
      by_cases e : r = q
      · subst e; exact hy
      · exact hs r q hr hql (by omega) hy
  · have hij' : i = j := by simp at h; omega
    subst hij'
    have hpl : (∀ i j, (hi : i < l.length) → (hj : j < l.length) → i < j → f l[j] < 0 → f l[i] < 0) → i = posF f l := fun hs => (posF_eq hj (h12 hs).1 (fun h => (h12 hs).2 i h (Nat.le_refl _))).symm
    repeat (first | refine cg_seq ?_ | refine cg_region ?_ | refine eg_then ?_ | refine qsp ?_ | refine cg_exit ?_ | refine eg_then_exit ?_ | refine eg_in_exit ?_)
    cases y : decide ((i : Int) < (l.length : Int))
    · repeat (first | refine rg_nil ?_ | refine eg_then ?_ | refine qsp ?_ | refine qso ?_ | refine cg_ret ?_)
      refine eg_return2 rfl rfl rfl ?_
      have hn : l[i]? = none := by simp at y; simp; omega
      exact ⟨i, by rw [hn]; rfl, hj, hpl⟩
    have hil : i < l.length := by simpa using y
    obtain ⟨bx, ox, cx, rfl, hrep, hcx⟩ := (hl.le hle).el i l[i] (List.getElem?_eq_getElem hil)
    have hcl := (tMember).len hrep
    have hcall := hf k1 hle l[i] (List.getElem_mem hil) cx hrep
    repeat (first | refine qsp ?_ | refine qsi ?_)
    refine rs rfl rfl (loc_det rfl (d_load_agg (vs := cx) rfl rfl rfl hcl hcx)) ?_
    repeat (first | refine qsp ?_)
    refine rs rfl rfl (loc_call_is rfl rfl rfl rfl (hcall)) ?_
    repeat (first | refine rg_nil ?_ | refine eg_then ?_ | refine qsp ?_ | refine cg_ret ?_)
    refine eg_return2 rfl rfl rfl ?_
    refine ⟨i, ?_, hj, hpl⟩
    rw [List.getElem?_eq_getElem hil, show decide (Option.map f (some l[i]) = some 0) = (f l[i] == 0) by rw [Bool.eq_iff_iff]; simp]

set_option maxHeartbeats 2000000 in
theorem insertRMem_ct {N : Nat} {h k : PH} {v : Value} {css : List (List Value)} {l : List Member} {i vb : Nat} {cm : List Value} {et' : TypeId} {x : Member} (hrow : Row N k 44 6 v l.length css.flatten) (hp : Pieces tMember h css l) (hle : Le h k) (hap : Apart h v) (hi : i ≤ l.length)
    (hx : k vb = some (.cells cm.toArray et' (0, 0))) (hcm : (tMember).rep h cm x) (hne : v.ownBlock ≠ some vb) (hb : l.length ≤ 1000000) :
    CTMN Tryz.prog 59 #[v, .int .i64 (i : Int), .slice (some ⟨vb, 0, none⟩) 1 1] k N (fun b => v.ownBlock = some b) (fun k' u => Row N k' 44 6 u (l.take i ++ x :: l.drop i).length (css.take i ++ cm :: css.drop i).flatten ∧ Le h k' ∧ ∀ g, u.ownBlock = some g → v.ownBlock = some g ∨ k g = none) := by
  refine ctmn_of_body (l := [_, _, _]) Tryz.func59 rfl Tryz.ntmps59 (by simp) fun F hF0 hFm hN0 hlt0 => ?_
  obtain ⟨a, c, rfl, hsl⟩ := Row.sls hrow (hp.le hle)
  have b1 := hsl.cap; have b2 := hsl.max; unfold maxLen at b2
  have hall : ∀ y ∈ css, y.length = 6 := hp.len
  have hcl : css.length = l.length := hp.1
  have hcml : cm.length = 6 := (tMember).len hcm
  have h1m : ∀ u ∈ cm, u.oneCell' = true := Member.one h cm x hcm
  have hcx : Cells k vb 0 cm := cells_at hx (by simp)
  have hp2 : Pieces tMember h (css.take i ++ cm :: css.drop i) (l.take i ++ x :: l.drop i) := hp.ins i hcm
  have hn2 : (l.take i ++ x :: l.drop i).length = l.length + 1 := by
    rw [List.length_append, List.length_take, List.length_cons, List.length_drop]; omega
  have hdone : ∀ u ∈ (css.drop i).flatten, u.oneCell' = true := fun u hu => by
    obtain ⟨cs, hcs, hu⟩ := List.mem_flatten.1 hu
    have hcs' := List.mem_of_mem_drop hcs
    obtain ⟨p, hp', rfl⟩ := List.getElem_of_mem hcs'
    exact Member.one h _ (l[p]'(by omega)) (hp.2 p _ _ (List.getElem?_eq_getElem hp') (List.getElem?_eq_getElem (by omega))) u hu
  rw [hn2]
  repeat (first | refine cg_seq ?_ | refine cg_region ?_ | refine rg_nil ?_ | refine eg_then ?_ | refine qsp ?_)
  refine rs rfl rfl (loc_det rfl (d_suf hsl rfl rfl rfl hi)) ?_
  repeat (first | refine cg_seq ?_ | refine cg_region ?_ | refine rg_nil ?_ | refine eg_then ?_ | refine qsp ?_ | refine qsn ?_ | refine cg_cond_false rfl ?_ | refine cg_skip ?_)
  refine cg_cond rfl (fun hc => ?_) (fun hc => ?_)
  · have e : i = l.length := by simp at hc; omega
    subst e
    have e1 : (css.take l.length ++ cm :: css.drop l.length).flatten = css.flatten ++ cm := by
      rw [← hcl, List.take_length, List.drop_length]; simp
    repeat (first | refine cg_seq ?_ | refine cg_region ?_ | refine qsp ?_)
    rcases hrow.own with ⟨e, e0, e2⟩ | ⟨g, cap, cur, e, hNg, hkg, hmc, hmx, hsz, htk⟩
    · simp only [Value.slice.injEq, true_and] at e
      obtain ⟨rfl, _, rfl⟩ := e
      refine r_appNew (xs := []) rfl rfl rfl rfl rfl rfl rfl (.inl rfl) (by rw [e0]; simp) (fun _ => rfl) hcx (by simpa using hcml) (by omega) rfl rfl (by omega) (by omega) (by unfold maxLen; omega) (by omega) ?_
      intro u k2 hrow2 hle2 hfr
      repeat (first | refine rg_nil ?_ | refine eg_then ?_ | refine qsp ?_ | refine cg_ret ?_ | refine eg_then_ret ?_)
      rw [show [] ++ cm = (css.take l.length ++ cm :: css.drop l.length).flatten by rw [e1, e2]] at hrow2
      exact eg_return rfl rfl ⟨hrow2.N_le hN0, hle.trans hle2, fun g hg => .inr (hfr g hg)⟩
    simp only [Value.slice.injEq, true_and] at e
    obtain ⟨rfl, rfl⟩ := e
    have hmu : F.mu g := by rw [hFm]; rfl
    have hh0 : h g = none := hap g rfl
    have hcl2 : cur.toList.length = c * 6 := by simpa using hsz
    by_cases hroom : l.length + 1 ≤ c
    · refine r_appRoom rfl rfl rfl rfl rfl rfl rfl hkg hcx (by simpa using hcml) hroom hsz h1m (.inr hmu) ?_
      intro k2 ht2 hk2
      repeat (first | refine rg_nil ?_ | refine eg_then ?_ | refine qsp ?_ | refine cg_ret ?_ | refine eg_then_ret ?_)
      refine eg_return rfl rfl ⟨⟨?_, .inr ⟨g, c, _, rfl, hNg, hk2, hroom, hmx, ?_, ?_⟩⟩, ht2 h hle hh0, fun g' hg' => .inl hg'⟩
      all_goals have hr1 : (l.length + 1) * 6 ≤ c * 6 := Nat.mul_le_mul_right _ hroom
      all_goals have hr2 : (l.length + 1) * 6 = l.length * 6 + 6 := Nat.succ_mul _ _
      · rw [flat_len _ hp2.len, hp2.1, hn2]; rfl
      · show _ = c * 6
        simp only [List.size_toArray, List.length_append, List.length_take, List.length_drop, hcml]
        omega
      · rw [e1, ← htk]
        show List.take ((l.length + 1) * 6) _ = _
        rw [List.take_left' (by simp only [List.length_append, List.length_take, hcml]; omega)]
    · refine r_appNew rfl rfl rfl rfl rfl rfl rfl (.inr ⟨g, 0, rfl, cells_take hkg htk⟩) (by rw [flat_len _ hall, hcl]) (fun e => by cases e) hcx (by simpa using hcml) (by omega) rfl rfl hmc (by omega) (by unfold maxLen; omega) (by omega) ?_
      intro u k2 hrow2 hle2 hfr
      repeat (first | refine rg_nil ?_ | refine eg_then ?_ | refine qsp ?_ | refine cg_ret ?_ | refine eg_then_ret ?_)
      rw [← e1] at hrow2
      exact eg_return rfl rfl ⟨hrow2.N_le hN0, hle.trans hle2, fun g hg => .inr (hfr g hg)⟩
  have hin : i < l.length := by
    have : i ≠ l.length := by simp at hc; omega
    omega
  rcases hrow.own with ⟨e, e0, e2⟩ | ⟨g, cap, cur, e, hNg, hkg, hmc, hmx, hsz, htk⟩
  · omega
  simp only [Value.slice.injEq, true_and] at e
  obtain ⟨rfl, rfl⟩ := e
  have hmu : F.mu g := by rw [hFm]; rfl
  have hh0 : h g = none := hap g rfl
  have hcl2 : cur.toList.length = c * 6 := by simpa using hsz
  have hgv : vb ≠ g := fun e => hne (by rw [e]; rfl)
  have hci : ¬ c = i := by omega
  have hsh : shiftA c i 6 (some ⟨g, 0, none⟩) = some ⟨g, 0 + i * 6, none⟩ := by simp [shiftA, hci, addr_add]
  have hcd : Cells k g (0 + i * 6) (css.drop i).flatten := cells_drop hkg htk hall hcl hi
  repeat (first | refine cg_seq ?_ | refine cg_region ?_ | refine eg_then ?_ | refine qsp ?_ | refine qsa ?_ | refine cg_skip ?_)
  refine rs rfl rfl (loc_det rfl (d_cap rfl rfl)) ?_
  repeat (first | refine rg_nil ?_ | refine eg_then ?_ | refine qsp ?_)
  refine cg_cond rfl (fun hc2 => ?_) (fun hc2 => ?_)
  · have hgr : c < l.length + 1 := by simp at hc2; omega
    repeat (first | refine cg_seq ?_ | refine cg_region ?_ | refine qsp ?_)
    refine rs rfl rfl (loc_det rfl (d_pre_row rfl rfl rfl hi hmc)) ?_
    repeat (first | refine qsp ?_ | refine qsa ?_ | refine qss ?_)
    rw [show (l.length : Int) + ((1 : Nat) : Int) - (i : Int) = ((l.length + 1 - i : Nat) : Int) by omega]
    refine r_appZ (xs := (css.take i).flatten) rfl rfl rfl rfl rfl rfl rfl (.inr ⟨g, 0, rfl, cells_take hkg (by rw [flat_take css i hall, ← htk, List.take_take, Nat.min_eq_left (Nat.mul_le_mul_right _ hi)])⟩) (by rw [flat_len _ (fun y hy => hall y (List.mem_of_mem_take hy)), List.length_take, hcl]; congr 1; omega) (by omega) rfl rfl (by omega) (by unfold maxLen; omega) (by omega) ?_
    intro g2 cap2 cur2 k2 hN2 hn2k hle2 hk2 hc1 hc2' hsz2 htk2
    have em : i + (l.length + 1 - i) = l.length + 1 := by omega
    rw [em] at hc1
    rw [em]
    have hcl3 : cur2.toList.length = cap2 * 6 := by simpa using hsz2
    obtain ⟨cs1, hcs1⟩ : ∃ c1, c1 = cur2.toList.take (i * 6) ++ cm ++ cur2.toList.drop (i * 6 + cm.length) := ⟨_, rfl⟩
    obtain ⟨n1, n2, n3, n4⟩ := ins_new (sz := 6) hall hcl hi hcml (by rw [hcl3]; exact Nat.mul_le_mul_right _ hc1) htk2 hcs1
    have hl1 : (l.length + 1) * 6 ≤ cap2 * 6 := Nat.mul_le_mul_right _ hc1
    have hl2 : (i + 1) * 6 ≤ (l.length + 1) * 6 := Nat.mul_le_mul_right _ (by omega)
    have hl3 : (i + 1) * 6 = i * 6 + 6 := Nat.succ_mul _ _
    repeat (first | refine cg_seq ?_ | refine cg_region ?_ | refine rg_nil ?_ | refine eg_then ?_ | refine qsp ?_)
    refine rs rfl rfl (loc_det rfl (d_suf_row rfl rfl rfl (by omega) hc1)) ?_
    rw [show shiftA cap2 i 6 (some ⟨g2, 0, none⟩) = some ⟨g2, 0 + i * 6, none⟩ by simp [shiftA, show ¬ cap2 = i by omega, addr_add]]
    repeat (first | refine qsp ?_)
    refine r_copy (news := cm) rfl rfl rfl rfl rfl rfl hk2 (hcx.le hle2) (by rw [hcml]; rw [show Nat.min 1 (l.length + 1 - i) = 1 from Nat.min_eq_left (by omega)]) (by rw [hcml]; have : cur2.size = cap2 * 6 := hsz2; omega) h1m (.inl hN2) ?_
    intro k3 ht3 hk3
    have hg3 : k3 g = some (.cells cur 44 (0, 0)) := turn1_get ht3 (fun e => by rw [e] at hkg; rw [hkg] at hn2k; cases hn2k) (hle2 _ _ hkg)
    have hle3 : Le k k3 := ht3 k hle2 hn2k
    simp only [Nat.zero_add] at hk3
    rw [← hcs1] at hk3
    repeat (first | refine cg_seq ?_ | refine rg_nil ?_ | refine eg_then ?_)
    refine cg_fresh 8 [] (by kernel_rfl) (by kernel_rfl) rfl rfl rfl ?_
    dsimp only [List.take]
    repeat (first | refine qfp ?_ | refine qfa ?_)
    refine fs_s rfl (loc_det rfl (d_suf_row (i := i + 1) rfl rfl rfl (by omega) hc1)) rfl ?_
    repeat (first | refine qfp ?_)
    refine fs_s rfl (loc_det rfl (d_suf_row rfl rfl rfl hi hmc)) rfl ?_
    refine fs_nil ?_
    intro k4 vs hle4 _ _ _
    rw [hsh, show shiftA cap2 (i + 1) 6 (some ⟨g2, 0, none⟩) = some ⟨g2, 0 + (i + 1) * 6, none⟩ by simp [shiftA, show ¬ cap2 = i + 1 by omega, addr_add]]
    dsimp only [List.drop, nameE, nameP]
    refine r_copy (news := (css.drop i).flatten) rfl rfl rfl rfl rfl rfl (hle4 _ _ hk3) (hcd.le (hle3.trans hle4)) (by rw [n1]; rw [show Nat.min (l.length - i) (l.length + 1 - (i + 1)) = l.length - i from by rw [show l.length + 1 - (i + 1) = l.length - i by omega]; exact Nat.min_self _]) (by simpa using n2) hdone (.inl hN2) ?_
    intro k5 ht5 hk5
    simp only [Nat.zero_add] at hk5
    have hle5 : Le h k5 := (ht5 k (hle3.trans hle4) hn2k) |> hle.trans
    repeat (first | refine cg_seq ?_ | refine cg_region ?_ | refine rg_nil ?_ | refine eg_then ?_ | refine qsp ?_ | refine cg_ret ?_ | refine eg_then_ret ?_)
    refine eg_return rfl rfl ⟨⟨?_, .inr ⟨g2, cap2, _, rfl, Nat.le_trans hN0 hN2, hk5, hc1, hc2', ?_, ?_⟩⟩, hle5, fun g' hg' => by simp [Value.ownBlock] at hg'; subst hg'; exact .inr hn2k⟩
    · rw [flat_len _ hp2.len, hp2.1, hn2]; rfl
    · show _ = cap2 * 6
      rw [← hcl3, ← n3]
      simp only [List.size_toArray, List.length_append, List.length_take, List.length_drop]
      omega
    · exact n4
  · have hroom : l.length + 1 ≤ c := by simp at hc2; omega
    obtain ⟨cs1, hcs1⟩ : ∃ c1, c1 = cur.toList.take ((i + 1) * 6) ++ (css.drop i).flatten ++ cur.toList.drop ((i + 1) * 6 + (css.drop i).flatten.length) := ⟨_, rfl⟩
    have hl1 : (l.length + 1) * 6 ≤ c * 6 := Nat.mul_le_mul_right _ hroom
    obtain ⟨n1, n2, n3, n4, n5⟩ := ins_room (sz := 6) hall hcl hi hcml (by rw [hcl2]; exact hl1) htk hcs1
    have hcsz : cur.size ≠ 0 := by rw [hsz]; omega
    repeat (first | refine cg_seq ?_ | refine cg_region ?_ | refine eg_then ?_ | refine qsp ?_ | refine qsa ?_ | refine cg_skip ?_)
    refine rs rfl rfl (loc_det rfl (d_part (l := none) (h := some (l.length + 1)) rfl rfl trivial ⟨_, rfl⟩ (Nat.zero_le _) hroom hmc (by simp))) ?_
    simp only [ob, Nat.sub_zero]
    rw [show shiftA c 0 6 (some (⟨g, 0, none⟩ : Addr)) = some ⟨g, 0, none⟩ by simp [shiftA, addr_add]]
    repeat (first | refine cg_seq ?_ | refine cg_region ?_ | refine rg_nil ?_ | refine eg_then ?_ | refine qsp ?_ | refine qsa ?_)
    refine rs rfl rfl (loc_det rfl (d_suf_row (i := i + 1) rfl rfl rfl (by omega) hroom)) ?_
    rw [show shiftA c (i + 1) 6 (some ⟨g, 0, none⟩) = (if c = i + 1 then some ⟨g, 0, none⟩ else some ⟨g, 0 + (i + 1) * 6, none⟩) by simp only [shiftA, Option.map_some, addr_add]; split <;> rfl]
    rw [if_neg (by omega)]
    refine rs rfl rfl (loc_det rfl (d_over (tS := 22) (tR := 4) rfl rfl rfl rfl Tryz.func98 (by kernel_rfl) (by kernel_rfl) (by kernel_rfl) (by kernel_rfl) hgv hkg hx hcsz)) ?_
    repeat (first | refine cg_seq ?_ | refine rg_nil ?_ | refine eg_then ?_ | refine qsp ?_ | refine cg_cond_true rfl ?_)
    refine cg_fresh 8 [] (by kernel_rfl) (by kernel_rfl) rfl rfl rfl ?_
    dsimp only [List.take]
    repeat (first | refine qfp ?_ | refine qfa ?_)
    refine fs_s rfl (loc_det rfl (d_suf_row (i := i + 1) rfl rfl rfl (by omega) hroom)) rfl ?_
    repeat (first | refine qfp ?_)
    refine fs_s rfl (loc_det rfl (d_suf_row rfl rfl rfl (by omega : i ≤ l.length + 1) hroom)) rfl ?_
    refine fs_nil ?_
    intro k2 vs hle2 _ _ _
    rw [hsh, show shiftA c (i + 1) 6 (some ⟨g, 0, none⟩) = some ⟨g, 0 + (i + 1) * 6, none⟩ by simp [shiftA, show ¬ c = i + 1 by omega, addr_add]]
    dsimp only [List.drop, nameE, nameP]
    refine r_copy (news := (css.drop i).flatten) rfl rfl rfl rfl rfl rfl (hle2 _ _ hkg) (hcd.le hle2) ?_ (by rw [← hcl2] at *; simpa using n2) hdone (.inr hmu) ?_
    · rw [n1]
      congr 1
      rw [show l.length + 1 - (i + 1) = l.length - i by omega]
      exact (Nat.min_eq_right (by omega)).symm
    intro k3 ht3 hk3
    simp only [Nat.zero_add] at hk3
    rw [← hcs1] at hk3
    have hx3 : k3 vb = some (.cells cm.toArray et' (0, 0)) := turn1_get ht3 hgv (hle2 _ _ hx)
    repeat (first | refine cg_seq ?_ | refine cg_region ?_ | refine rg_nil ?_ | refine eg_then ?_ | refine qsp ?_)
    refine rs rfl rfl (loc_det rfl (d_suf_row rfl rfl rfl (by omega : i ≤ l.length + 1) hroom)) ?_
    rw [hsh]
    repeat (first | refine qsp ?_)
    refine r_copy (news := cm) rfl rfl rfl rfl rfl rfl hk3 (cells_at hx3 (by simp)) (by rw [hcml]; rw [show Nat.min 1 (l.length + 1 - i) = 1 from Nat.min_eq_left (by omega)]) (by simpa using n4) h1m (.inr hmu) ?_
    intro k4 ht4 hk4
    simp only [Nat.zero_add] at hk4
    have hle3 : Le h k3 := ht3 h (hle.trans hle2) hh0
    have hle4 : Le h k4 := ht4 h hle3 hh0
    repeat (first | refine cg_seq ?_ | refine cg_region ?_ | refine rg_nil ?_ | refine eg_then ?_ | refine qsp ?_ | refine cg_ret ?_ | refine eg_then_ret ?_)
    refine eg_return rfl rfl ⟨⟨?_, .inr ⟨g, c, _, rfl, hNg, hk4, hroom, hmx, ?_, ?_⟩⟩, hle4, fun g' hg' => .inl hg'⟩
    · rw [flat_len _ hp2.len, hp2.1, hn2]; rfl
    · show _ = c * 6
      rw [← hcl2, ← n3]
      simp only [List.size_toArray, List.length_append, List.length_take, List.length_drop]
      omega
    · exact n5

set_option maxHeartbeats 400000 in
theorem cloneStr_ct {k : PH} {a : Option Addr} {c : Nat} {l : List ByteArray} (hl : Sl tStr k a c l) (hb : l.length * 16 ≤ 140737488355328) :
    CTN Tryz.prog 50 #[.slice a l.length c] k (fun N k' v => ∃ css, Pieces tStr k css l ∧ Row N k' 9 1 v l.length css.flatten) := by
  refine ctn_of_body (l := [_]) Tryz.func50 rfl Tryz.ntmps50 (by simp) (fun N k k' v hle ⟨css, h1, h2⟩ => ⟨css, h1, h2.le hle⟩) fun F hF0 hFm => ?_
  have b1 := hl.cap; have b2 := hl.max; unfold maxLen at b2
  repeat (first | refine cg_seq ?_ | refine cg_region ?_ | refine rg_nil ?_ | refine eg_then ?_ | refine qsp ?_)
  refine rs rfl rfl (loc_det rfl (d_eqsl rfl rfl)) ?_
  cases a with
  | none =>
    have hc := hl.nil rfl
    have : l = [] := List.length_eq_zero_iff.1 (by omega)
    subst this
    repeat (first | refine cg_seq ?_ | refine cg_region ?_ | refine rg_nil ?_ | refine eg_then ?_ | refine qsp ?_ | refine cg_cond_true rfl ?_ | refine cg_ret ?_ | refine eg_then_ret ?_)
    exact eg_return rfl rfl ⟨[], Pieces.nil _ _, row_nil _ _ _ _⟩
  | some ad =>
    repeat (first | refine cg_seq ?_ | refine cg_region ?_ | refine rg_nil ?_ | refine eg_then ?_ | refine cg_cond_false rfl ?_ | refine cg_skip ?_)
    refine rb rfl rfl rfl rfl (a_empty rfl) ?_; intro b k2 hb2 hN2 hle2 hk2
    repeat (first | refine qsp ?_)
    refine raps2 (T := tStr) (sz := 1) (m := 0) (olds := []) rfl rfl rfl rfl rfl rfl rfl rfl (row_empty hN2 hk2) hl hle2 ByteArray.one rfl rfl (by unfold maxLen; omega) (by omega) ?_
    intro v k3 css hp hrow ht
    repeat (first | refine rg_nil ?_ | refine eg_then ?_ | refine qsp ?_ | refine cg_ret ?_)
    refine eg_return rfl rfl ⟨css, hp, by simpa using hrow⟩

set_option maxHeartbeats 400000 in
theorem cloneTp_ct {k : PH} {a : Option Addr} {c : Nat} {l : List Tp} (hl : Sl tTp k a c l) (hb : l.length * 32 ≤ 140737488355328) :
    CTN Tryz.prog 33 #[.slice a l.length c] k (fun N k' v => ∃ css, Pieces tTp k css l ∧ Row N k' 53 3 v l.length css.flatten) := by
  refine ctn_of_body (l := [_]) Tryz.func33 rfl Tryz.ntmps33 (by simp) (fun N k k' v hle ⟨css, h1, h2⟩ => ⟨css, h1, h2.le hle⟩) fun F hF0 hFm => ?_
  have b1 := hl.cap; have b2 := hl.max; unfold maxLen at b2
  repeat (first | refine cg_seq ?_ | refine cg_region ?_ | refine rg_nil ?_ | refine eg_then ?_ | refine qsp ?_)
  refine rs rfl rfl (loc_det rfl (d_eqsl rfl rfl)) ?_
  cases a with
  | none =>
    have hc := hl.nil rfl
    have : l = [] := List.length_eq_zero_iff.1 (by omega)
    subst this
    repeat (first | refine cg_seq ?_ | refine cg_region ?_ | refine rg_nil ?_ | refine eg_then ?_ | refine qsp ?_ | refine cg_cond_true rfl ?_ | refine cg_ret ?_ | refine eg_then_ret ?_)
    exact eg_return rfl rfl ⟨[], Pieces.nil _ _, row_nil _ _ _ _⟩
  | some ad =>
    repeat (first | refine cg_seq ?_ | refine cg_region ?_ | refine rg_nil ?_ | refine eg_then ?_ | refine cg_cond_false rfl ?_ | refine cg_skip ?_)
    refine rb rfl rfl rfl rfl (a_empty rfl) ?_; intro b k2 hb2 hN2 hle2 hk2
    repeat (first | refine qsp ?_)
    refine raps2 (T := tTp) (sz := 3) (m := 0) (olds := []) rfl rfl rfl rfl rfl rfl rfl rfl (row_empty hN2 hk2) hl hle2 Tp.one rfl rfl (by unfold maxLen; omega) (by omega) ?_
    intro v k3 css hp hrow ht
    repeat (first | refine rg_nil ?_ | refine eg_then ?_ | refine qsp ?_ | refine cg_ret ?_)
    refine eg_return rfl rfl ⟨css, hp, by simpa using hrow⟩

end Go.Wm

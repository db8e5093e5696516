/-
  Producers, the program's: one put in its place; whether there is room. Conditions: that what is handed in reads as data.
-/
import Derived.Test.YtfejamdfhbamcaaG3
import Derived.Test.YtfejamdfhbamcaaS9
set_option linter.all false
namespace Go.Wm
open Go.RowKit Go.Proofs
attribute [local irreducible] RG CG EG WA Loc Det Alc CT Exit.then Exit.inBlock Code.wp bodyPost
set_option maxHeartbeats 400000 in
theorem cloneProdT_ct {k : PH} {a : Option Addr} {c : Nat} {l : List ProdT} (hl : Sl tProdT k a c l) (hb : l.length * 40 ≤ 140737488355328) :
    CTN Try.prog 74 #[.slice a l.length c] k (fun N k' v => ∃ css, Pieces tProdT k css l ∧ Row N k' 51 3 v l.length css.flatten) := by
  refine ctn_of_body (l := [_]) Try.func74 rfl Try.ntmps74 (by simp) (fun N k k' v hle ⟨css, h1, h2⟩ => ⟨css, h1, h2.le hle⟩) fun F hF0 hFm => ?_
  have b1 := hl.cap; have b2 := hl.max; unfold maxLen at b2
  repeat (first | refine cg_seq ?_ | refine cg_region ?_ | refine rg_nil ?_ | refine eg_then ?_ | refine qsp ?_)
  refine rs rfl rfl (loc_det rfl (d_eqsl rfl rfl)) ?_
  cases a with
  | none =>
    have hc := hl.nil rfl
    have : l = [] := List.length_eq_zero_iff.1 (by omega)
    subst this
    repeat (first | refine cg_seq ?_ | refine cg_region ?_ | refine rg_nil ?_ | refine eg_then ?_ | refine qsp ?_ | refine cg_cond_true rfl ?_ | refine cg_ret ?_ | refine eg_then_ret ?_)
    exact eg_return rfl rfl ⟨[], Pieces.nil _ _, row_nil _ _ _ _⟩
  | some ad =>
    repeat (first | refine cg_seq ?_ | refine cg_region ?_ | refine rg_nil ?_ | refine eg_then ?_ | refine cg_cond_false rfl ?_ | refine cg_skip ?_)
    refine rb rfl rfl rfl rfl (a_empty rfl) ?_; intro b k2 hb2 hN2 hle2 hk2
    repeat (first | refine qsp ?_)
    refine raps2 (T := tProdT) (sz := 3) (m := 0) (olds := []) rfl rfl rfl rfl rfl rfl rfl rfl (row_empty hN2 hk2) hl hle2 ProdT.one rfl rfl (by unfold maxLen; omega) (by omega) ?_
    intro v k3 css hp hrow ht
    repeat (first | refine rg_nil ?_ | refine eg_then ?_ | refine qsp ?_ | refine cg_ret ?_)
    refine eg_return rfl rfl ⟨css, hp, by simpa using hrow⟩

set_option maxHeartbeats 2000000 in
theorem insertRProdT_ct {N : Nat} {h k : PH} {v : Value} {css : List (List Value)} {l : List ProdT} {i vb : Nat} {cm : List Value} {et' : TypeId} {x : ProdT} (hrow : Row N k 51 3 v l.length css.flatten) (hp : Pieces tProdT h css l) (hle : Le h k) (hap : Apart h v) (hi : i ≤ l.length)
    (hx : k vb = some (.cells cm.toArray et' (0, 0))) (hcm : (tProdT).rep h cm x) (hne : v.ownBlock ≠ some vb) (hb : l.length ≤ 1000000) :
    CTMN Try.prog 151 #[v, .int .i64 (i : Int), .slice (some ⟨vb, 0, none⟩) 1 1] k N (fun b => v.ownBlock = some b) (fun k' u => Row N k' 51 3 u (l.take i ++ x :: l.drop i).length (css.take i ++ cm :: css.drop i).flatten ∧ Le h k' ∧ ∀ g, u.ownBlock = some g → v.ownBlock = some g ∨ k g = none) := by
  refine ctmn_of_body (l := [_, _, _]) Try.func151 rfl Try.ntmps151 (by simp) fun F hF0 hFm hN0 hlt0 => ?_
  obtain ⟨a, c, rfl, hsl⟩ := Row.sls hrow (hp.le hle)
  have b1 := hsl.cap; have b2 := hsl.max; unfold maxLen at b2
  have hall : ∀ y ∈ css, y.length = 3 := hp.len
  have hcl : css.length = l.length := hp.1
  have hcml : cm.length = 3 := (tProdT).len hcm
  have h1m : ∀ u ∈ cm, u.oneCell' = true := ProdT.one h cm x hcm
  have hcx : Cells k vb 0 cm := cells_at hx (by simp)
  have hp2 : Pieces tProdT h (css.take i ++ cm :: css.drop i) (l.take i ++ x :: l.drop i) := hp.ins i hcm
  have hn2 : (l.take i ++ x :: l.drop i).length = l.length + 1 := by
    rw [List.length_append, List.length_take, List.length_cons, List.length_drop]; omega
  have hdone : ∀ u ∈ (css.drop i).flatten, u.oneCell' = true := fun u hu => by
    obtain ⟨cs, hcs, hu⟩ := List.mem_flatten.1 hu
    have hcs' := List.mem_of_mem_drop hcs
    obtain ⟨p, hp', rfl⟩ := List.getElem_of_mem hcs'
    exact ProdT.one h _ (l[p]'(by omega)) (hp.2 p _ _ (List.getElem?_eq_getElem hp') (List.getElem?_eq_getElem (by omega))) u hu
  rw [hn2]
  repeat (first | refine cg_seq ?_ | refine cg_region ?_ | refine rg_nil ?_ | refine eg_then ?_ | refine qsp ?_)
  refine rs rfl rfl (loc_det rfl (d_suf hsl rfl rfl rfl hi)) ?_
  repeat (first | refine cg_seq ?_ | refine cg_region ?_ | refine rg_nil ?_ | refine eg_then ?_ | refine qsp ?_ | refine qsn ?_ | refine cg_cond_false rfl ?_ | refine cg_skip ?_)
  refine cg_cond rfl (fun hc => ?_) (fun hc => ?_)
  · have e : i = l.length := by simp at hc; omega
    subst e
    have e1 : (css.take l.length ++ cm :: css.drop l.length).flatten = css.flatten ++ cm := by
      rw [← hcl, List.take_length, List.drop_length]; simp
    repeat (first | refine cg_seq ?_ | refine cg_region ?_ | refine qsp ?_)
    rcases hrow.own with ⟨e, e0, e2⟩ | ⟨g, cap, cur, e, hNg, hkg, hmc, hmx, hsz, htk⟩
    · simp only [Value.slice.injEq, true_and] at e
      obtain ⟨rfl, _, rfl⟩ := e
      refine r_appNew (xs := []) rfl rfl rfl rfl rfl rfl rfl (.inl rfl) (by rw [e0]; simp) (fun _ => rfl) hcx (by simpa using hcml) (by omega) rfl rfl (by omega) (by omega) (by unfold maxLen; omega) (by omega) ?_
      intro u k2 hrow2 hle2 hfr
      repeat (first | refine rg_nil ?_ | refine eg_then ?_ | refine qsp ?_ | refine cg_ret ?_ | refine eg_then_ret ?_)
      rw [show [] ++ cm = (css.take l.length ++ cm :: css.drop l.length).flatten by rw [e1, e2]] at hrow2
      exact eg_return rfl rfl ⟨hrow2.N_le hN0, hle.trans hle2, fun g hg => .inr (hfr g hg)⟩
    simp only [Value.slice.injEq, true_and] at e
    obtain ⟨rfl, rfl⟩ := e
    have hmu : F.mu g := by rw [hFm]; rfl
    have hh0 : h g = none := hap g rfl
    have hcl2 : cur.toList.length = c * 3 := by simpa using hsz
    by_cases hroom : l.length + 1 ≤ c
    · refine r_appRoom rfl rfl rfl rfl rfl rfl rfl hkg hcx (by simpa using hcml) hroom hsz h1m (.inr hmu) ?_
      intro k2 ht2 hk2
      repeat (first | refine rg_nil ?_ | refine eg_then ?_ | refine qsp ?_ | refine cg_ret ?_ | refine eg_then_ret ?_)
      refine eg_return rfl rfl ⟨⟨?_, .inr ⟨g, c, _, rfl, hNg, hk2, hroom, hmx, ?_, ?_⟩⟩, ht2 h hle hh0, fun g' hg' => .inl hg'⟩
      all_goals have hr1 : (l.length + 1) * 3 ≤ c * 3 := Nat.mul_le_mul_right _ hroom
      all_goals have hr2 : (l.length + 1) * 3 = l.length * 3 + 3 := Nat.succ_mul _ _
      · rw [flat_len _ hp2.len, hp2.1, hn2]; rfl
      · show _ = c * 3
        simp only [List.size_toArray, List.length_append, List.length_take, List.length_drop, hcml]
        omega
      · rw [e1, ← htk]
        show List.take ((l.length + 1) * 3) _ = _
        rw [List.take_left' (by simp only [List.length_append, List.length_take, hcml]; omega)]
    · refine r_appNew rfl rfl rfl rfl rfl rfl rfl (.inr ⟨g, 0, rfl, cells_take hkg htk⟩) (by rw [flat_len _ hall, hcl]) (fun e => by cases e) hcx (by simpa using hcml) (by omega) rfl rfl hmc (by omega) (by unfold maxLen; omega) (by omega) ?_
      intro u k2 hrow2 hle2 hfr
      repeat (first | refine rg_nil ?_ | refine eg_then ?_ | refine qsp ?_ | refine cg_ret ?_ | refine eg_then_ret ?_)
      rw [← e1] at hrow2
      exact eg_return rfl rfl ⟨hrow2.N_le hN0, hle.trans hle2, fun g hg => .inr (hfr g hg)⟩
  have hin : i < l.length := by
    have : i ≠ l.length := by simp at hc; omega
    omega
  rcases hrow.own with ⟨e, e0, e2⟩ | ⟨g, cap, cur, e, hNg, hkg, hmc, hmx, hsz, htk⟩
  · omega
  simp only [Value.slice.injEq, true_and] at e
  obtain ⟨rfl, rfl⟩ := e
  have hmu : F.mu g := by rw [hFm]; rfl
  have hh0 : h g = none := hap g rfl
  have hcl2 : cur.toList.length = c * 3 := by simpa using hsz
  have hgv : vb ≠ g := fun e => hne (by rw [e]; rfl)
  have hci : ¬ c = i := by omega
  have hsh : shiftA c i 3 (some ⟨g, 0, none⟩) = some ⟨g, 0 + i * 3, none⟩ := by simp [shiftA, hci, addr_add]
  have hcd : Cells k g (0 + i * 3) (css.drop i).flatten := cells_drop hkg htk hall hcl hi
  repeat (first | refine cg_seq ?_ | refine cg_region ?_ | refine eg_then ?_ | refine qsp ?_ | refine qsa ?_ | refine cg_skip ?_)
  refine rs rfl rfl (loc_det rfl (d_cap rfl rfl)) ?_
  repeat (first | refine rg_nil ?_ | refine eg_then ?_ | refine qsp ?_)
  refine cg_cond rfl (fun hc2 => ?_) (fun hc2 => ?_)
  · have hgr : c < l.length + 1 := by simp at hc2; omega
    repeat (first | refine cg_seq ?_ | refine cg_region ?_ | refine qsp ?_)
    refine rs rfl rfl (loc_det rfl (d_pre_row rfl rfl rfl hi hmc)) ?_
    repeat (first | refine qsp ?_ | refine qsa ?_ | refine qss ?_)
    rw [show (l.length : Int) + ((1 : Nat) : Int) - (i : Int) = ((l.length + 1 - i : Nat) : Int) by omega]
    refine r_appZ (xs := (css.take i).flatten) rfl rfl rfl rfl rfl rfl rfl (.inr ⟨g, 0, rfl, cells_take hkg (by rw [flat_take css i hall, ← htk, List.take_take, Nat.min_eq_left (Nat.mul_le_mul_right _ hi)])⟩) (by rw [flat_len _ (fun y hy => hall y (List.mem_of_mem_take hy)), List.length_take, hcl]; congr 1; omega) (by omega) rfl rfl (by omega) (by unfold maxLen; omega) (by omega) ?_
    intro g2 cap2 cur2 k2 hN2 hn2k hle2 hk2 hc1 hc2' hsz2 htk2
    have em : i + (l.length + 1 - i) = l.length + 1 := by omega
    rw [em] at hc1
    rw [em]
    have hcl3 : cur2.toList.length = cap2 * 3 := by simpa using hsz2
    obtain ⟨cs1, hcs1⟩ : ∃ c1, c1 = cur2.toList.take (i * 3) ++ cm ++ cur2.toList.drop (i * 3 + cm.length) := ⟨_, rfl⟩
    obtain ⟨n1, n2, n3, n4⟩ := ins_new (sz := 3) hall hcl hi hcml (by rw [hcl3]; exact Nat.mul_le_mul_right _ hc1) htk2 hcs1
    have hl1 : (l.length + 1) * 3 ≤ cap2 * 3 := Nat.mul_le_mul_right _ hc1
    have hl2 : (i + 1) * 3 ≤ (l.length + 1) * 3 := Nat.mul_le_mul_right _ (by omega)
    have hl3 : (i + 1) * 3 = i * 3 + 3 := Nat.succ_mul _ _
    repeat (first | refine cg_seq ?_ | refine cg_region ?_ | refine rg_nil ?_ | refine eg_then ?_ | refine qsp ?_)
    refine rs rfl rfl (loc_det rfl (d_suf_row rfl rfl rfl (by omega) hc1)) ?_
    rw [show shiftA cap2 i 3 (some ⟨g2, 0, none⟩) = some ⟨g2, 0 + i * 3, none⟩ by simp [shiftA, show ¬ cap2 = i by omega, addr_add]]
    repeat (first | refine qsp ?_)
    refine r_copy (news := cm) rfl rfl rfl rfl rfl rfl hk2 (hcx.le hle2) (by rw [hcml]; rw [show Nat.min 1 (l.length + 1 - i) = 1 from Nat.min_eq_left (by omega)]) (by rw [hcml]; have : cur2.size = cap2 * 3 := hsz2; omega) h1m (.inl hN2) ?_
    intro k3 ht3 hk3
    have hg3 : k3 g = some (.cells cur 51 (0, 0)) := turn1_get ht3 (fun e => by rw [e] at hkg; rw [hkg] at hn2k; cases hn2k) (hle2 _ _ hkg)
    have hle3 : Le k k3 := ht3 k hle2 hn2k
    simp only [Nat.zero_add] at hk3
    rw [← hcs1] at hk3
    repeat (first | refine cg_seq ?_ | refine rg_nil ?_ | refine eg_then ?_)
    refine cg_fresh 8 [] (by kernel_rfl) (by kernel_rfl) rfl rfl rfl ?_
    dsimp only [List.take]
    repeat (first | refine qfp ?_ | refine qfa ?_)
    refine fs_s rfl (loc_det rfl (d_suf_row (i := i + 1) rfl rfl rfl (by omega) hc1)) rfl ?_
    repeat (first | refine qfp ?_)
    refine fs_s rfl (loc_det rfl (d_suf_row rfl rfl rfl hi hmc)) rfl ?_
    refine fs_nil ?_
    intro k4 vs hle4 _ _ _
    rw [hsh, show shiftA cap2 (i + 1) 3 (some ⟨g2, 0, none⟩) = some ⟨g2, 0 + (i + 1) * 3, none⟩ by simp [shiftA, show ¬ cap2 = i + 1 by omega, addr_add]]
    dsimp only [List.drop, nameE, nameP]
    refine r_copy (news := (css.drop i).flatten) rfl rfl rfl rfl rfl rfl (hle4 _ _ hk3) (hcd.le (hle3.trans hle4)) (by rw [n1]; rw [show Nat.min (l.length - i) (l.length + 1 - (i + 1)) = l.length - i from by rw [show l.length + 1 - (i + 1) = l.length - i by omega]; exact Nat.min_self _]) (by simpa using n2) hdone (.inl hN2) ?_
    intro k5 ht5 hk5
    simp only [Nat.zero_add] at hk5
    have hle5 : Le h k5 := (ht5 k (hle3.trans hle4) hn2k) |> hle.trans
    repeat (first | refine cg_seq ?_ | refine cg_region ?_ | refine rg_nil ?_ | refine eg_then ?_ | refine qsp ?_ | refine cg_ret ?_ | refine eg_then_ret ?_)
    refine eg_return rfl rfl ⟨⟨?_, .inr ⟨g2, cap2, _, rfl, Nat.le_trans hN0 hN2, hk5, hc1, hc2', ?_, ?_⟩⟩, hle5, fun g' hg' => by simp [Value.ownBlock] at hg'; subst hg'; exact .inr hn2k⟩
    · rw [flat_len _ hp2.len, hp2.1, hn2]; rfl
    · show _ = cap2 * 3
      rw [← hcl3, ← n3]
      simp only [List.size_toArray, List.length_append, List.length_take, List.length_drop]
      omega
    · exact n4
  · have hroom : l.length + 1 ≤ c := by simp at hc2; omega
    obtain ⟨cs1, hcs1⟩ : ∃ c1, c1 = cur.toList.take ((i + 1) * 3) ++ (css.drop i).flatten ++ cur.toList.drop ((i + 1) * 3 + (css.drop i).flatten.length) := ⟨_, rfl⟩
    have hl1 : (l.length + 1) * 3 ≤ c * 3 := Nat.mul_le_mul_right _ hroom
    obtain ⟨n1, n2, n3, n4, n5⟩ := ins_room (sz := 3) hall hcl hi hcml (by rw [hcl2]; exact hl1) htk hcs1
    have hcsz : cur.size ≠ 0 := by rw [hsz]; omega
    repeat (first | refine cg_seq ?_ | refine cg_region ?_ | refine eg_then ?_ | refine qsp ?_ | refine qsa ?_ | refine cg_skip ?_)
    refine rs rfl rfl (loc_det rfl (d_part (l := none) (h := some (l.length + 1)) rfl rfl trivial ⟨_, rfl⟩ (Nat.zero_le _) hroom hmc (by simp))) ?_
    simp only [ob, Nat.sub_zero]
    rw [show shiftA c 0 3 (some (⟨g, 0, none⟩ : Addr)) = some ⟨g, 0, none⟩ by simp [shiftA, addr_add]]
    repeat (first | refine cg_seq ?_ | refine cg_region ?_ | refine rg_nil ?_ | refine eg_then ?_ | refine qsp ?_ | refine qsa ?_)
    refine rs rfl rfl (loc_det rfl (d_suf_row (i := i + 1) rfl rfl rfl (by omega) hroom)) ?_
    rw [show shiftA c (i + 1) 3 (some ⟨g, 0, none⟩) = (if c = i + 1 then some ⟨g, 0, none⟩ else some ⟨g, 0 + (i + 1) * 3, none⟩) by simp only [shiftA, Option.map_some, addr_add]; split <;> rfl]
    rw [if_neg (by omega)]
    refine rs rfl rfl (loc_det rfl (d_over (tS := 22) (tR := 4) rfl rfl rfl rfl Try.func196 (by kernel_rfl) (by kernel_rfl) (by kernel_rfl) (by kernel_rfl) hgv hkg hx hcsz)) ?_
    repeat (first | refine cg_seq ?_ | refine rg_nil ?_ | refine eg_then ?_ | refine qsp ?_ | refine cg_cond_true rfl ?_)
    refine cg_fresh 8 [] (by kernel_rfl) (by kernel_rfl) rfl rfl rfl ?_
    dsimp only [List.take]
    repeat (first | refine qfp ?_ | refine qfa ?_)
    refine fs_s rfl (loc_det rfl (d_suf_row (i := i + 1) rfl rfl rfl (by omega) hroom)) rfl ?_
    repeat (first | refine qfp ?_)
    refine fs_s rfl (loc_det rfl (d_suf_row rfl rfl rfl (by omega : i ≤ l.length + 1) hroom)) rfl ?_
    refine fs_nil ?_
    intro k2 vs hle2 _ _ _
    rw [hsh, show shiftA c (i + 1) 3 (some ⟨g, 0, none⟩) = some ⟨g, 0 + (i + 1) * 3, none⟩ by simp [shiftA, show ¬ c = i + 1 by omega, addr_add]]
    dsimp only [List.drop, nameE, nameP]
    refine r_copy (news := (css.drop i).flatten) rfl rfl rfl rfl rfl rfl (hle2 _ _ hkg) (hcd.le hle2) ?_ (by rw [← hcl2] at *; simpa using n2) hdone (.inr hmu) ?_
    · rw [n1]
      congr 1
      rw [show l.length + 1 - (i + 1) = l.length - i by omega]
      exact (Nat.min_eq_right (by omega)).symm
    intro k3 ht3 hk3
    simp only [Nat.zero_add] at hk3
    rw [← hcs1] at hk3
    have hx3 : k3 vb = some (.cells cm.toArray et' (0, 0)) := turn1_get ht3 hgv (hle2 _ _ hx)
    repeat (first | refine cg_seq ?_ | refine cg_region ?_ | refine rg_nil ?_ | refine eg_then ?_ | refine qsp ?_)
    refine rs rfl rfl (loc_det rfl (d_suf_row rfl rfl rfl (by omega : i ≤ l.length + 1) hroom)) ?_
    rw [hsh]
    repeat (first | refine qsp ?_)
    refine r_copy (news := cm) rfl rfl rfl rfl rfl rfl hk3 (cells_at hx3 (by simp)) (by rw [hcml]; rw [show Nat.min 1 (l.length + 1 - i) = 1 from Nat.min_eq_left (by omega)]) (by simpa using n4) h1m (.inr hmu) ?_
    intro k4 ht4 hk4
    simp only [Nat.zero_add] at hk4
    have hle3 : Le h k3 := ht3 h (hle.trans hle2) hh0
    have hle4 : Le h k4 := ht4 h hle3 hh0
    repeat (first | refine cg_seq ?_ | refine cg_region ?_ | refine rg_nil ?_ | refine eg_then ?_ | refine qsp ?_ | refine cg_ret ?_ | refine eg_then_ret ?_)
    refine eg_return rfl rfl ⟨⟨?_, .inr ⟨g, c, _, rfl, hNg, hk4, hroom, hmx, ?_, ?_⟩⟩, hle4, fun g' hg' => .inl hg'⟩
    · rw [flat_len _ hp2.len, hp2.1, hn2]; rfl
    · show _ = c * 3
      rw [← hcl2, ← n3]
      simp only [List.size_toArray, List.length_append, List.length_take, List.length_drop]
      omega
    · exact n5

abbrev POwn (N : Nat) (k : PH) (v : Value) (l : List ProdT) : Prop := Own tProdT N k 51 v l
set_option maxHeartbeats 2000000 in
theorem put_ctn {k : PH} {a : Option Addr} {c : Nat} {l : List ProdT} {p : ProdT} {ap : Option Addr} {cp : Nat} (hl : Sl tProdT k a c l) (hb : l.length ≤ 1000000) (hps : ProdsP l) (hsd : Sl tDid k ap cp p.did) (hok : p.ok) (h1 : -1 ≤ p.pid) (h2 : p.pid ≤ 1099511627776) :
    CTN Try.prog 76 #[.slice a l.length c, .agg (p.cs ap cp).toArray] k (fun N k' v => POwn N k' v (putP l p)) := by
  refine ctn_of_body (l := [_, _]) Try.func76 rfl Try.ntmps76 (by simp) (fun N k k' v hle h => h.le hle) fun F hF0 hFm => ?_
  have b1 := hl.cap; have b2 := hl.max; unfold maxLen at b2
  have hpw := ((prods_iff l).1 hps).2
  have hput := put_pos (p := p) hpw
  have hrep : tProdT.rep k (p.cs ap cp) p := ⟨ap, cp, rfl, hsd, hok⟩
  repeat (first | refine cg_seq ?_ | refine cg_region ?_)
  refine rb rfl rfl rfl rfl (a_box rfl rfl) ?_; intro b3 k3 hb3 hN3 hle3 hk3
  obtain ⟨p0, p1, p2⟩ := ProdT.parts (cells_at (vs := p.cs ap cp) hk3 rfl)
  repeat (first | refine cg_seq ?_ | refine cg_region ?_ | refine rg_nil ?_ | refine eg_then ?_ | refine qsp ?_ | refine qsl ?_ | refine qsf ?_)
  refine rs rfl rfl (loc_call_is rfl rfl rfl rfl (find_ct (hl.le hle3) hb hps h1 h2)) ?_
  have hmt : metF (toP p.pid) l = true → _ := metF_lt
  have hple := posF_le (toP p.pid) l
  generalize posF (toP p.pid) l = pos at hput hmt hple ⊢
  repeat (first | refine cg_seq ?_ | refine cg_region ?_ | refine rg_nil ?_ | refine eg_then ?_ | refine qsp ?_)
  refine rvn rfl rfl rfl rfl rfl rfl rfl (cloneProdT_ct (hl.le hle3) (by omega)) ?_
  rintro N6 k6 v6 hN6 hnew6 hle6 ⟨css, hpc, hrow⟩
  have hle := hle3.trans hle6
  have hap : Apart k3 v6 := hrow.apart hnew6
  have hrow := hrow.N_le hN6
  have hrep3 := tProdT.mono hle3 hrep
  have c5 := (cells_at (vs := p.cs ap cp) hk3 rfl).le hle6
  repeat (first | refine cg_seq ?_ | refine cg_region ?_ | refine rg_nil ?_ | refine eg_then ?_ | refine qsp ?_)
  cases hm : metF (toP p.pid) l
  · rw [hm, if_neg (by simp)] at hput
    repeat (first | refine cg_seq ?_ | refine cg_region ?_ | refine eg_then ?_ | refine qsp ?_ | refine qsg ?_ | refine cg_cond_false rfl ?_ | refine cg_skip ?_)
    refine rb rfl rfl rfl rfl (a_slice (cells := p.cs ap cp) rfl rfl rfl rfl (by kernel_rfl) rfl) ?_; intro b7 k7 hb7 hN7 hle7 hk7
    refine rcmn rfl rfl rfl rfl rfl rfl rfl (Nat.le_refl _) (insertRProdT_ct (h := k3) (vb := b7) (i := pos) (x := p) (hrow.le hle7) hpc (hle6.trans hle7) hap hple hk7 hrep3 (fun e => by rw [(hrow.block e).2.choose_spec] at hb7; cases hb7) hb) (fun b hb => .inl (hrow.block hb).1) ?_
    rintro u k8 _ ⟨hrow8, hle8, _⟩
    repeat (first | refine rg_nil ?_ | refine eg_then ?_ | refine qsp ?_ | refine cg_ret ?_)
    refine eg_return rfl rfl ?_
    rw [hput]
    exact ⟨_, (hpc.ins pos hrep3).le hle8, hrow8⟩
  · rw [hm, if_pos rfl] at hput
    obtain ⟨hlt, _⟩ := hmt hm
    have hcl := hpc.len
    obtain ⟨gg, cap, cur, ev, hNg, hkg, hlm, hmc, hsz, hcel, hset⟩ := hrow.el (i := pos) hcl (List.getElem?_eq_getElem (by rw [hpc.1]; exact hlt)) (by decide)
    subst ev
    have hxl : (p.cs ap cp).length = 3 := rfl
    repeat (first | refine cg_seq ?_ | refine cg_region ?_ | refine qsp ?_ | refine qsi ?_ | refine qsg ?_ | refine cg_cond_true rfl ?_)
    refine rst_agg (vs := p.cs ap cp) rfl rfl rfl rfl rfl rfl (by simp [ProdT.cs, Value.oneCell']) rfl hkg (by rw [hxl]; exact hsz) (.inl hNg) ?_
    have hrow9 := hset _ (p.cs ap cp) hxl (upd_same k6 gg (.cells (cur.toList.take (0 + pos * 3) ++ p.cs ap cp ++ cur.toList.drop (0 + pos * 3 + (p.cs ap cp).length)).toArray 51 (0, 0)))
    have hle9 := hle6.upd (b := gg) (o := (.cells (cur.toList.take (0 + pos * 3) ++ p.cs ap cp ++ cur.toList.drop (0 + pos * 3 + (p.cs ap cp).length)).toArray 51 (0, 0))) (hap gg rfl)
    generalize upd k6 gg (.cells (cur.toList.take (0 + pos * 3) ++ p.cs ap cp ++ cur.toList.drop (0 + pos * 3 + (p.cs ap cp).length)).toArray 51 (0, 0)) = k9 at hrow9 hle9 ⊢
    repeat (first | refine cg_seq ?_ | refine cg_region ?_ | refine rg_nil ?_ | refine eg_then ?_ | refine qsp ?_ | refine cg_ret ?_ | refine eg_then_ret ?_)
    refine eg_return rfl rfl ?_
    rw [hput]
    refine ⟨css.set pos (p.cs ap cp), (hpc.set pos hrep3).le hle9, ?_⟩
    show Row _ _ _ _ _ (l.set pos p).length _
    rw [List.length_set]
    exact hrow9
set_option maxHeartbeats 1000000 in
theorem full_ct {k : PH} {a : Option Addr} {c : Nat} {l : List ProdT} {b : Batch} {ab : Option Addr} {cb : Nat} (hl : Sl tProdT k a c l) (hb : l.length ≤ 1000000) (hps : ProdsP l) (h1 : -1 ≤ b.pid) (h2 : b.pid ≤ 1099511627776) :
    CT Try.prog 73 #[.slice a l.length c, .agg (b.cs ab cb).toArray] k (fun _ v => v = .bool (fullP l b)) := by
  refine ct_of_body (l := [_, _]) Try.func73 rfl Try.ntmps73 (by simp) (fun _ _ _ _ h => h) fun F hF0 hFm => ?_
  have b1 := hl.cap; have b2 := hl.max; unfold maxLen at b2
  have hpw := ((prods_iff l).1 hps).2
  have hfp := find_pos (pid := b.pid) hpw
  repeat (first | refine cg_seq ?_ | refine cg_region ?_)
  refine rb rfl rfl rfl rfl (a_box rfl rfl) ?_; intro b3 k3 hb3 hN3 hle3 hk3
  obtain ⟨p0, p1, p2, p3, p4, p5, p6, p7, p8, p9⟩ := Batch.parts (cells_at (vs := b.cs ab cb) hk3 rfl)
  repeat (first | refine cg_seq ?_ | refine cg_region ?_ | refine rg_nil ?_ | refine eg_then ?_ | refine qsp ?_ | refine qsl ?_ | refine qsf ?_)
  refine rs rfl rfl (loc_call_is rfl rfl rfl rfl (find_ct (hl.le hle3) hb hps h1 h2)) ?_
  have hmt : metF (toP b.pid) l = true → _ := metF_lt
  generalize posF (toP b.pid) l = pos at hfp hmt ⊢
  repeat (first | refine cg_seq ?_ | refine cg_region ?_ | refine rg_nil ?_ | refine eg_then ?_ | refine qsp ?_ | refine qsl ?_ | refine qsf ?_)
  cases q1 : decide (b.pid ≥ 0)
  · repeat (first | refine rg_nil ?_ | refine eg_then ?_ | refine qsp ?_ | refine qso ?_ | refine cg_ret ?_)
    refine eg_return rfl rfl ?_
    unfold fullP; rw [show decide (0 ≤ b.pid) = false from q1]; rfl
  · repeat (first | refine qsp ?_)
    have hf : fullP l b = ((findP l b.pid).isNone && decide (1024 ≤ l.length)) := by unfold fullP; rw [show decide (0 ≤ b.pid) = true from q1]; rfl
    cases hm : metF (toP b.pid) l
    · rw [hm, if_neg (by simp)] at hfp
      repeat (first | refine rg_nil ?_ | refine eg_then ?_ | refine qsp ?_ | refine qsn ?_ | refine cg_ret ?_)
      refine eg_return rfl rfl ?_
      rw [hf, hfp]; simp; omega
    · obtain ⟨hlt, _⟩ := hmt hm
      rw [hm, if_pos rfl, List.getElem?_eq_getElem hlt] at hfp
      repeat (first | refine rg_nil ?_ | refine eg_then ?_ | refine qsp ?_ | refine qso ?_ | refine cg_ret ?_)
      refine eg_return rfl rfl ?_
      rw [hf, hfp]; rfl
end Go.Wm

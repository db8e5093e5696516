/-
  Sums of bytes, the program's and the document's, and what is sealed. Conditions: that what is handed in reads as data.
-/
import Derived.Test.YtfejamdfhbamcaaCrP
set_option linter.all false
namespace Go.Wm
open Go.RowKit Go.Proofs
attribute [local irreducible] RG CG EG WA Loc Det Alc CT Exit.then Exit.inBlock Code.wp bodyPost

theorem wrap32 {n : Nat} (h : n < 4294967296) : IntKind.u32.wrap (n : Int) = (n : Int) := by
  rw [wrap_nat rfl]
  show ((n % 4294967296 : Nat) : Int) = n
  rw [Nat.mod_eq_of_lt h]
set_option maxHeartbeats 400000 in
theorem half_ct {k : PH} {v : Nat} (h : v < 4294967296) : CT Try.prog 201 #[.int .u32 (v : Int)] k (fun _ r => r = .int .u32 (halfN v : Nat)) := by
  refine ct_of_body (l := [_]) Try.func201 rfl Try.ntmps201 (by simp) (fun _ _ _ _ h => h) fun F hF0 hFm => ?_
  repeat (first | refine cg_seq ?_ | refine cg_region ?_ | refine rg_nil ?_ | refine eg_then ?_ | refine qsp ?_ | refine cg_block ?_)
  refine cg_loop (fun (i : Nat) e k' => k' = k ∧ i ≤ 4 ∧ e = [(0, .is (.int .u32 (stepsN v i : Nat))), (3, .is (.int .i64 (i : Int)))])
    (fun i => 4 - i) 0 ⟨rfl, by omega, rfl⟩ ⟨rfl, rfl, trivial⟩ ?_
  rintro i e k1 ⟨rfl, hi, rfl⟩
  repeat (first | refine cg_seq ?_ | refine cg_region ?_ | refine rg_nil ?_ | refine eg_then ?_ | refine qsp ?_)
  refine cg_cond rfl (fun h2 => ?_) (fun h2 => ?_)
  · have hi2 : i < 4 := by simp at h2; omega
    have hv := stepsN_lt i h
    have hst : stepsN v (i + 1) = stepN (stepsN v i) := by rw [stepsN_add]; rfl
    rw [← show stepsN v i = stepsN v i from rfl]
    generalize stepsN v i = q at hv hst ⊢
    have hneg : ∃ s : Nat, IntKind.u32.wrap (0 - ((q &&& 1 : Nat) : Int)) = (s : Int) ∧ s < 4294967296 ∧ q / 2 ^ 1 ^^^ (polyN &&& s) = stepN q := by
      rw [Nat.and_one_is_mod]
      rcases Nat.mod_two_eq_zero_or_one q with hq | hq
      · refine ⟨0, by rw [hq, wrap_uns rfl]; rfl, by decide, ?_⟩
        rw [Nat.and_zero, Nat.xor_zero, stepN, if_neg (by omega)]
      · refine ⟨4294967295, by rw [hq, wrap_uns rfl]; rfl, by decide, ?_⟩
        rw [show polyN &&& 4294967295 = polyN by decide, stepN, if_pos hq]
    obtain ⟨s, hs1, hs2, hs3⟩ := hneg
    have hq2 : q / 2 ^ 1 < 4294967296 := by omega
    have hps : polyN &&& s < 4294967296 := Nat.lt_of_le_of_lt Nat.and_le_left (by decide)
    repeat (first | refine cg_seq ?_ | refine cg_region ?_ | refine eg_then ?_ | refine qsp ?_ | refine cg_skip ?_ | refine cg_block ?_)
    refine rs rfl rfl (loc_det rfl (d_shrN (b := 1) rfl rfl rfl (by decide))) ?_
    repeat (first | refine qsp ?_)
    refine rs rfl rfl (loc_det rfl (d_andN (b := 1) rfl rfl rfl rfl hv (by decide))) ?_
    refine rs rfl rfl (loc_det rfl (d_negk rfl rfl)) ?_
    rw [hs1]
    refine rs rfl rfl (loc_det rfl (d_andN (a := polyN) rfl rfl rfl rfl (by decide) hs2)) ?_
    refine rs rfl rfl (loc_det rfl (d_xorN rfl rfl rfl rfl hq2 hps)) ?_
    rw [hs3, ← hst]
    repeat (first | refine cg_region ?_ | refine rg_nil ?_ | refine eg_then ?_ | refine qsp ?_ | refine qsa ?_ | refine eg_in_normal ?_)
    exact eg_again (i + 1) _ ⟨rfl, hi2, rfl⟩ (by omega) ⟨rfl, rfl, trivial⟩
  · have hi2 : i = 4 := by simp at h2; omega
    subst hi2
    repeat (first | refine cg_seq ?_ | refine cg_region ?_ | refine rg_nil ?_ | refine eg_then ?_ | refine qsp ?_ | refine cg_ret ?_ | refine cg_exit ?_ | refine eg_then_exit ?_ | refine eg_in_exit ?_)
    exact eg_return rfl rfl rfl
/-- The table, in memory: its first i numbers. -/
def tabL (i : Nat) : List Value := (List.range 16).map fun j => if j < i then Value.int .u32 ((halfN j : Nat) : Int) else .int .u32 0
theorem tabL_at {i j : Nat} (hj : j < 16) (hi : j < i) : (tabL i)[j]? = some (.int .u32 ((halfN j : Nat) : Int)) := by
  simp [tabL, hj, hi]
theorem tabL_set {i : Nat} (hi : i < 16) : (tabL i).set i (.int .u32 ((halfN i : Nat) : Int)) = tabL (i + 1) := by
  apply List.ext_getElem (by simp [tabL])
  intro j h1 h2
  simp only [tabL, List.length_map, List.length_range] at h2
  rw [List.getElem_set]
  simp only [tabL, List.getElem_map, List.getElem_range]
  by_cases e : i = j
  · subst e; simp
  · rw [if_neg e]
    by_cases hj : j < i
    · simp [hj, show j < i + 1 by omega]
    · simp [hj, show ¬ j < i + 1 by omega]
/-- One nibble. -/
def TabAt (k : PH) (q : Nat) : Prop := ∀ j, j < 16 → Cells k q (0 + j * 1) [.int .u32 ((halfN j : Nat) : Int)]
theorem TabAt.le {k k' : PH} {q : Nat} (h : TabAt k q) (hl : Le k k') : TabAt k' q := fun j hj => (h j hj).le hl
set_option maxHeartbeats 400000 in
theorem adder1_ct {k : PH} {v c q : Nat} (hv : v < 4294967296) (hc : c < 256) (ht : TabAt k q) :
    CT Try.prog 202 #[.int .u32 (v : Int), .int .u8 (c : Int), .pointer (some ⟨q, 0, none⟩)] k (fun _ r => r = .int .u32 (stepsN (v ^^^ c) 8 : Nat)) := by
  refine ct_of_body (l := [_, _, _]) Try.func202 rfl Try.ntmps202 (by simp) (fun _ _ _ _ h => h) fun F hF0 hFm => ?_
  have hx : v ^^^ c < 4294967296 := Nat.xor_lt_two_pow (n := 32) hv (by omega)
  have one : ∀ x : Nat, halfN (x % 16) ^^^ x / 2 ^ 4 = halfN x := fun x => (half_table x).symm
  have hh : ∀ x : Nat, x < 4294967296 → halfN x < 4294967296 := fun x h => stepsN_lt 4 h
  repeat (first | refine cg_seq ?_ | refine cg_region ?_ | refine rg_nil ?_ | refine eg_then ?_ | refine qsp ?_)
  refine rs rfl rfl (loc_det rfl (d_conv rfl rfl)) ?_
  rw [wrap32 (by omega)]
  refine rs rfl rfl (loc_det rfl (d_xorN rfl rfl rfl rfl hv (show c < 2 ^ 32 by omega))) ?_
  repeat (first | refine cg_seq ?_ | refine cg_region ?_ | refine rg_nil ?_ | refine eg_then ?_ | refine qsp ?_)
  refine rs rfl rfl (loc_det rfl (d_andN (b := 15) rfl rfl rfl rfl hx (by decide))) ?_
  rw [and_15]
  refine rs rfl rfl (loc_det rfl (d_idxA rfl rfl rfl (Nat.mod_lt _ (by decide)))) ?_
  have c1 := ht ((v ^^^ c) % 16) (Nat.mod_lt _ (by decide))
  repeat (first | refine qsp ?_ | refine qsl ?_)
  refine rs rfl rfl (loc_det rfl (d_shrN (b := 4) rfl rfl rfl (by decide))) ?_
  refine rs rfl rfl (loc_det rfl (d_xorN rfl rfl rfl rfl (hh _ (by omega)) (show (v ^^^ c) / 2 ^ 4 < 2 ^ 32 by omega))) ?_
  rw [one]
  have h2 := hh _ hx
  generalize hw : halfN (v ^^^ c) = w at h2 ⊢
  repeat (first | refine cg_seq ?_ | refine cg_region ?_ | refine rg_nil ?_ | refine eg_then ?_ | refine qsp ?_)
  refine rs rfl rfl (loc_det rfl (d_andN (b := 15) rfl rfl rfl rfl h2 (by decide))) ?_
  rw [and_15]
  refine rs rfl rfl (loc_det rfl (d_idxA rfl rfl rfl (Nat.mod_lt _ (by decide)))) ?_
  have c2 := ht (w % 16) (Nat.mod_lt _ (by decide))
  repeat (first | refine qsp ?_ | refine qsl ?_)
  refine rs rfl rfl (loc_det rfl (d_shrN (b := 4) rfl rfl rfl (by decide))) ?_
  refine rs rfl rfl (loc_det rfl (d_xorN rfl rfl rfl rfl (hh _ (by omega)) (show w / 2 ^ 4 < 2 ^ 32 by omega))) ?_
  rw [one]
  repeat (first | refine rg_nil ?_ | refine eg_then ?_ | refine qsp ?_ | refine cg_ret ?_)
  refine eg_return rfl rfl ?_
  rw [show stepsN (v ^^^ c) 8 = stepsN (halfN (v ^^^ c)) 4 from stepsN_add _ 4 4, hw]
  rfl
set_option maxHeartbeats 400000 in
theorem adder_ct {k : PH} : CT Try.prog 162 #[] k (fun k' r => ∃ q, r = .func (.func 202) #[] #[.pointer (some ⟨q, 0, none⟩)] ∧ TabAt k' q) := by
  refine ct_of_body (l := []) Try.func162 rfl Try.ntmps162 (by simp) (fun k k' v hle ⟨q, h1, h2⟩ => ⟨q, h1, h2.le hle⟩) fun F hF0 hFm => ?_
  repeat (first | refine cg_seq ?_ | refine cg_region ?_ | refine rg_nil ?_ | refine eg_then ?_ | refine qsp ?_)
  refine rb rfl rfl rfl rfl (a_alloc rfl) ?_; intro b1 k1 hb1 hN1 hle1 hk1
  repeat (first | refine cg_seq ?_ | refine cg_region ?_ | refine rg_nil ?_ | refine eg_then ?_ | refine qsp ?_ | refine cg_block ?_)
  refine cg_loop (fun (i : Nat) e k' => k' b1 = some (.cells (tabL i).toArray 222 (0, 0)) ∧ i ≤ 16 ∧ e = [(1, .is (.pointer (some ⟨b1, 0, none⟩))), (3, .is (.int .i64 (i : Int)))])
    (fun i => 16 - i) 0 ⟨by rw [hk1]; rfl, by omega, rfl⟩ ⟨rfl, rfl, trivial⟩ ?_
  rintro i e k2 ⟨hk2, hi, rfl⟩
  repeat (first | refine cg_seq ?_ | refine cg_region ?_ | refine rg_nil ?_ | refine eg_then ?_ | refine qsp ?_)
  refine cg_cond rfl (fun h2 => ?_) (fun h2 => ?_)
  · have hi2 : i < 16 := by simp at h2; omega
    repeat (first | refine cg_seq ?_ | refine cg_region ?_ | refine rg_nil ?_ | refine eg_then ?_ | refine qsp ?_ | refine cg_skip ?_ | refine cg_block ?_)
    refine rs rfl rfl (loc_det rfl (d_conv rfl rfl)) ?_
    rw [wrap32 (by omega)]
    refine rs rfl rfl (loc_call_is rfl rfl rfl rfl (half_ct (by omega))) ?_
    refine rs rfl rfl (loc_det rfl (d_idxA rfl rfl rfl hi2)) ?_
    refine rw0 rfl rfl rfl rfl rfl rfl rfl rfl hk2 (by simp [tabL]; omega) (.inl hN1) ?_
    intro k3 ht3 hk3
    repeat (first | refine cg_region ?_ | refine rg_nil ?_ | refine eg_then ?_ | refine qsp ?_ | refine qsa ?_ | refine eg_in_normal ?_)
    refine eg_again (i + 1) _ ⟨?_, hi2, rfl⟩ (by omega) ⟨rfl, rfl, trivial⟩
    rw [hk3, ← tabL_set hi2]
    congr 2
    apply Array.toList_inj.1
    simp
  · have hi2 : i = 16 := by simp at h2; omega
    subst hi2
    repeat (first | refine cg_seq ?_ | refine cg_region ?_ | refine rg_nil ?_ | refine eg_then ?_ | refine qsp ?_ | refine cg_ret ?_ | refine cg_exit ?_ | refine eg_then_exit ?_ | refine eg_in_exit ?_)
    exact eg_return rfl rfl ⟨b1, rfl, fun j hj => by rw [Nat.mul_one]; exact (cells_at (vs := tabL 16) hk2 rfl).one (tabL_at hj hj)⟩
set_option maxHeartbeats 400000 in
theorem sum_ct {k : PH} {a : Option Addr} {c : Nat} {bs : List Nat} (h : Sl tU8 k a c bs) : CT Try.prog 90 #[.slice a bs.length c] k (fun _ r => r = .int .u32 (sumL bs : Nat)) := by
  refine ct_of_body (l := [_]) Try.func90 rfl Try.ntmps90 (by simp) (fun _ _ _ _ h => h) fun F hF0 hFm => ?_
  have b1 := h.cap; have b2 := h.max; unfold maxLen at b2
  have hby := sl_bytes h
  repeat (first | refine cg_seq ?_ | refine cg_region ?_ | refine rg_nil ?_ | refine eg_then ?_ | refine qsp ?_)
  refine rv rfl rfl rfl (loc_call rfl rfl rfl rfl (fun k k' v hle ⟨q, h1, h2⟩ => ⟨q, h1, h2.le hle⟩) adder_ct) ?_
  rintro k1 hle1 _ ⟨q, rfl, ht⟩
  have h := h.le hle1
  repeat (first | refine cg_seq ?_ | refine cg_region ?_ | refine rg_nil ?_ | refine eg_then ?_ | refine qsp ?_ | refine qsn ?_ | refine cg_block ?_)
  refine cg_loop (fun (i : Nat) e k' => k' = k1 ∧ i ≤ bs.length ∧ e = [(3, .is (.func (.func 202) #[] #[.pointer (some ⟨q, 0, none⟩)])), (4, .is (.int .u32 (sumFrom 4294967295 (bs.take i) : Nat))), (8, .is (.slice a bs.length c)), (9, .is (.int .i64 (bs.length : Int))), (10, .is (.int .i64 (i : Int)))])
    (fun i => bs.length - i) 0 ⟨rfl, by omega, rfl⟩ ⟨rfl, rfl, rfl, rfl, rfl, trivial⟩ ?_
  rintro i e k2 ⟨rfl, hi, rfl⟩
  have hsl := sumFrom_lt (bs.take i) (v := 4294967295) (by decide) fun b hb => hby b (List.mem_of_mem_take hb)
  repeat (first | refine cg_seq ?_ | refine cg_region ?_ | refine rg_nil ?_ | refine eg_then ?_ | refine qsp ?_)
  refine cg_cond rfl (fun h2 => ?_) (fun h2 => ?_)
  · have hlt : i < bs.length := by simpa using h2
    have hbi := hby _ (List.getElem_mem hlt)
    obtain ⟨bx, ox, cx, rfl, ⟨rfl, _⟩, hcx⟩ := h.el i bs[i] (List.getElem?_eq_getElem hlt)
    repeat (first | refine cg_seq ?_ | refine cg_region ?_ | refine rg_nil ?_ | refine eg_then ?_ | refine qsp ?_ | refine qsi ?_ | refine qsl ?_ | refine cg_skip ?_ | refine cg_block ?_)
    refine rs rfl rfl (loc_call_is rfl rfl rfl rfl (adder1_ct hsl hbi ht)) ?_
    repeat (first | refine cg_region ?_ | refine rg_nil ?_ | refine eg_then ?_ | refine qsp ?_ | refine qsa ?_ | refine eg_in_normal ?_)
    refine eg_again (i + 1) _ ⟨rfl, hlt, rfl⟩ (by omega) ⟨rfl, ?_, rfl, rfl, rfl, trivial⟩
    rw [List.take_succ_eq_append_getElem hlt, sumFrom_snoc]
    rfl
  · have hil : i = bs.length := by simp at h2; omega
    rw [hil, List.take_length] at hsl ⊢
    repeat (first | refine cg_seq ?_ | refine cg_region ?_ | refine eg_then ?_ | refine qsp ?_ | refine cg_exit ?_ | refine eg_then_exit ?_ | refine eg_in_exit ?_)
    refine rs rfl rfl (loc_det rfl (d_notN rfl rfl rfl hsl)) ?_
    repeat (first | refine rg_nil ?_ | refine eg_then ?_ | refine qsp ?_ | refine cg_ret ?_)
    exact eg_return rfl rfl rfl
/-- What is sealed. -/
def sealL (bs : List Nat) : List Nat := bs ++ bigL (sumL bs) 4 4
theorem sealL_len (bs : List Nat) : (sealL bs).length = bs.length + 4 := by simp [sealL, bigL_len]
set_option maxHeartbeats 400000 in
theorem seal_ct {k : PH} {a : Option Addr} {c : Nat} {bs : List Nat} (h : Sl tU8 k a c bs) (hb : bs.length ≤ 1000000) :
    CTN Try.prog 83 #[.slice a bs.length c] k (fun N k' v => BRow N k' v (sealL bs)) := by
  refine ctn_of_body (l := [_]) Try.func83 rfl Try.ntmps83 (by simp) (fun N k k' v hle h => h.le hle) fun F hF0 hFm => ?_
  have hby := sl_bytes h
  have hs := sumL_lt hby
  repeat (first | refine cg_seq ?_ | refine cg_region ?_ | refine rg_nil ?_ | refine eg_then ?_ | refine qsp ?_)
  refine rapsB (bs := []) rfl rfl rfl rfl rfl rfl rfl (row_nil _ _ _ _) h (Le.refl _) (by simp; omega) ?_
  intro v1 k1 hrow1 ht1
  obtain ⟨hle1, _⟩ := ht1 k (Le.refl _) (apart_nil _ _ _)
  rw [List.nil_append] at hrow1
  obtain ⟨a1, c1, rfl, h1⟩ := BRow.sl hrow1 hby
  repeat (first | refine qsp ?_)
  refine rs rfl rfl (loc_call_is rfl rfl rfl rfl (sum_ct (h.le hle1))) ?_
  refine rs rfl rfl (loc_det rfl (d_conv rfl rfl)) ?_
  rw [wrap64 (by omega)]
  refine rvn rfl rfl rfl rfl rfl rfl rfl (put4_ct (n := sumL bs) h1 (by omega) (by omega)) ?_
  rintro N2 k2 v2 hN hf2 hle2 hrow2
  repeat (first | refine rg_nil ?_ | refine eg_then ?_ | refine qsp ?_ | refine cg_ret ?_)
  exact eg_return rfl rfl (hrow2.N_le hN)
end Go.Wm

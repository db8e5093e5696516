/-
  Records, as bytes, the program's and the document's. Conditions: that what is handed in reads as data.
-/
import Derived.Test.YtfejamdfhbamcaaB4
import Derived.Test.YtfejamdfhbamcaaGrw
set_option linter.all false
namespace Go.Wm
open Go.RowKit Go.Proofs
attribute [local irreducible] RG CG EG WA Loc Det Alc CT Exit.then Exit.inBlock Code.wp bodyPost

def recOk (r : Rec) : Bool := inO r.off && (inO r.stamp && (decide (r.key.size ≤ 64) && (decide (r.val.size ≤ 64) && !(r.dead && (decide (r.key = ⟨#[]⟩) || !decide (r.val = ⟨#[]⟩))))))
set_option maxHeartbeats 400000 in
theorem recIn_ct {k : PH} (n : Int) : CT Try.prog 215 #[.int .i64 n] k (fun _ v => v = .bool (inO n)) := by
  refine ct_of_body (l := [_]) Try.func215 rfl Try.ntmps215 (by simp) (fun _ _ _ _ h => h) fun F hF0 hFm => ?_
  repeat (first | refine cg_seq ?_ | refine cg_region ?_ | refine rg_nil ?_ | refine eg_then ?_ | refine qsp ?_)
  cases q : decide (n ≥ 0)
  · repeat (first | refine rg_nil ?_ | refine eg_then ?_ | refine qsp ?_ | refine qso ?_ | refine cg_ret ?_)
    refine eg_return rfl rfl ?_
    have : ¬ 0 ≤ n := by simp at q; omega
    simp [inO, this]
  · repeat (first | refine rg_nil ?_ | refine eg_then ?_ | refine qsp ?_ | refine cg_ret ?_)
    refine eg_return rfl rfl ?_
    have : 0 ≤ n := by simp at q; omega
    simp [inO, this]
set_option maxHeartbeats 1000000 in
theorem recCheck_ct {k : PH} {r : Rec} (hr : r.ok) : CT Try.prog 203 #[.agg r.vs.toArray] k (fun _ v => v = errOf (recOk r) 1) := by
  refine ct_of_body (l := [_]) Try.func203 rfl Try.ntmps203 (by simp) (fun _ _ _ _ h => h) fun F hF0 hFm => ?_
  have h1 := hr.2.1
  have h2 := hr.2.2.1
  unfold maxLen at h1 h2
  have hd : recOk r = (inO r.off && (inO r.stamp && (decide (r.key.size ≤ 64) && (decide (r.val.size ≤ 64) && !(r.dead && (decide (r.key = ⟨#[]⟩) || !decide (r.val = ⟨#[]⟩))))))) := rfl
  repeat (first | refine cg_seq ?_ | refine cg_region ?_)
  refine rb rfl rfl rfl rfl (a_box rfl rfl) ?_; intro b2 k2 hb2 hN2 hle2 hk2
  have c2 := cells_at (vs := r.vs) hk2 rfl
  obtain ⟨p0, p1, p2, p3, p4⟩ := Rec.parts c2
  repeat (first | refine cg_seq ?_ | refine cg_region ?_ | refine rg_nil ?_ | refine eg_then ?_ | refine qsp ?_ | refine qsl ?_ | refine qsf ?_ | refine cg_block ?_)
  refine rs rfl rfl (loc_call_is rfl rfl rfl rfl (recIn_ct r.off)) ?_
  repeat (first | refine rg_nil ?_ | refine eg_then ?_ | refine qsp ?_)
  cases q1 : inO r.off
  · repeat (first | refine cg_seq ?_ | refine cg_region ?_ | refine rg_nil ?_ | refine eg_then ?_ | refine qsp ?_ | refine cg_cond_true rfl ?_ | refine cg_skip ?_ | refine cg_ret ?_ | refine eg_then_ret ?_ | refine eg_in_ret ?_)
    exact eg_return rfl rfl (by simp [hd, q1, errOf])
  repeat (first | refine cg_seq ?_ | refine cg_region ?_ | refine qsl ?_ | refine qsf ?_ | refine cg_cond_false rfl ?_)
  refine rs rfl rfl (loc_call_is rfl rfl rfl rfl (recIn_ct r.stamp)) ?_
  repeat (first | refine rg_nil ?_ | refine eg_then ?_ | refine qsp ?_)
  cases q2 : inO r.stamp
  · repeat (first | refine cg_seq ?_ | refine cg_region ?_ | refine rg_nil ?_ | refine eg_then ?_ | refine qsp ?_ | refine cg_cond_true rfl ?_ | refine cg_skip ?_ | refine cg_ret ?_ | refine eg_then_ret ?_ | refine eg_in_ret ?_)
    exact eg_return rfl rfl (by simp [hd, q2, errOf])
  repeat (first | refine cg_region ?_ | refine qsl ?_ | refine qsf ?_ | refine cg_cond_false rfl ?_)
  refine rs rfl rfl (loc_det rfl (d_len_str rfl rfl)) ?_
  repeat (first | refine qsl ?_ | refine qsf ?_)
  refine rs rfl rfl (loc_det rfl (d_len_str rfl rfl)) ?_
  refine rs rfl rfl (loc_det rfl (d_max rfl rfl rfl)) ?_
  repeat (first | refine rg_nil ?_ | refine eg_then ?_ | refine qsp ?_)
  refine cg_cond rfl (fun h3 => ?_) (fun h3 => ?_)
  · repeat (first | refine cg_seq ?_ | refine cg_region ?_ | refine rg_nil ?_ | refine eg_then ?_ | refine qsp ?_ | refine cg_ret ?_ | refine eg_then_ret ?_ | refine eg_in_ret ?_)
    refine eg_return rfl rfl ?_
    have : ¬ (r.key.size ≤ 64 ∧ r.val.size ≤ 64) := by simp at h3; split at h3 <;> omega
    rw [hd]
    by_cases q3 : r.key.size ≤ 64
    · have : ¬ r.val.size ≤ 64 := fun h => this ⟨q3, h⟩
      simp [this, errOf]
    · simp [q3, errOf]
  have q34 : r.key.size ≤ 64 ∧ r.val.size ≤ 64 := by simp at h3; split at h3 <;> omega
  obtain ⟨q3', q4'⟩ := q34
  repeat (first | refine cg_seq ?_ | refine cg_region ?_ | refine qsp ?_ | refine qsl ?_ | refine qsf ?_)
  cases qd : r.dead
  · repeat (first | refine cg_seq ?_ | refine cg_region ?_ | refine rg_nil ?_ | refine eg_then ?_ | refine qsp ?_ | refine qso ?_ | refine cg_cond_false rfl ?_ | refine cg_skip ?_ | refine eg_in_normal ?_ | refine cg_ret ?_)
    exact eg_return rfl rfl (by simp [hd, q1, q2, q3', q4', qd, errOf])
  repeat (first | refine qsp ?_ | refine qsl ?_ | refine qsf ?_)
  cases q5 : decide (r.key = ⟨#[]⟩)
  rotate_left
  · repeat (first | refine cg_seq ?_ | refine cg_region ?_ | refine rg_nil ?_ | refine eg_then ?_ | refine qsp ?_ | refine qso ?_ | refine cg_cond_true rfl ?_ | refine cg_ret ?_ | refine eg_then_ret ?_ | refine eg_in_ret ?_)
    exact eg_return rfl rfl (by simp at q5; simp [hd, q5, qd, errOf])
  repeat (first | refine rg_nil ?_ | refine eg_then ?_ | refine qsp ?_ | refine qsl ?_ | refine qsf ?_)
  cases q6 : decide (r.val = ⟨#[]⟩)
  · repeat (first | refine cg_seq ?_ | refine cg_region ?_ | refine rg_nil ?_ | refine eg_then ?_ | refine qsp ?_ | refine cg_cond_true rfl ?_ | refine cg_ret ?_ | refine eg_then_ret ?_ | refine eg_in_ret ?_)
    exact eg_return rfl rfl (by simp at q6; simp [hd, q6, qd, errOf])
  · repeat (first | refine cg_seq ?_ | refine cg_region ?_ | refine rg_nil ?_ | refine eg_then ?_ | refine qsp ?_ | refine cg_cond_false rfl ?_ | refine cg_skip ?_ | refine eg_in_normal ?_ | refine cg_ret ?_)
    refine eg_return rfl rfl ?_
    simp at q5 q6
    rw [hd, q1, q2, decide_eq_true q3', decide_eq_true q4', qd, decide_eq_false q5, decide_eq_true q6]
    rfl
/-- A record's bytes, beside a base and a stamp. -/
def recL (r : Rec) (base stamp : Int) : List Nat := varL (zigN (r.off - base)) ++ varL (zigN (r.stamp - stamp)) ++ [if r.dead then 1 else 0] ++ textL r.key ++ textL r.val
theorem inO_iff {n : Int} : inO n = true ↔ 0 ≤ n ∧ n ≤ 1099511627776 := by simp [inO]
theorem recOk_parts {r : Rec} (h : recOk r = true) : inO r.off = true ∧ inO r.stamp = true ∧ r.key.size ≤ 64 ∧ r.val.size ≤ 64 := by
  simp only [recOk, Bool.and_eq_true, decide_eq_true_eq] at h
  exact ⟨h.1, h.2.1, h.2.2.1, h.2.2.2.1⟩
theorem text_len {s : ByteArray} (h : s.size ≤ 1000) : (textL s).length ≤ 1010 := by
  unfold textL
  have := varL_ten (zigN_lt (n := (s.size : Int)) (by unfold I64; omega))
  rw [List.length_append, strB_len]
  omega
theorem sl_nilB (k : PH) : Sl tU8 k none 0 [] := ⟨by simp, by simp [maxLen], fun _ => rfl, by simp, by simp⟩
set_option maxHeartbeats 1000000 in
theorem recPut_ct {k : PH} {r : Rec} {base stamp : Int} (hr : r.ok) (hok : recOk r = true) (hb : inO base = true) (hs : inO stamp = true) :
    CTN Try.prog 204 #[.agg r.vs.toArray, .int .i64 base, .int .i64 stamp] k (fun N k' v => ∃ v1, v = .tuple #[v1, .int .i64 0] ∧ BRow N k' v1 (recL r base stamp)) := by
  refine ctn_of_body (l := [_, _, _]) Try.func204 rfl Try.ntmps204 (by simp) (fun N k k' v hle ⟨v1, h1, h2⟩ => ⟨v1, h1, h2.le hle⟩) fun F hF0 hFm => ?_
  obtain ⟨o1, o2, o3, o4⟩ := recOk_parts hok
  have i1 := inO_iff.1 o1
  have i2 := inO_iff.1 o2
  have i3 := inO_iff.1 hb
  have i4 := inO_iff.1 hs
  have hv1 := varL_ten (zigN_lt (n := r.off - base) (by unfold I64; omega))
  have hv2 := varL_ten (zigN_lt (n := r.stamp - stamp) (by unfold I64; omega))
  have ht1 := text_len (s := r.key) (by omega)
  have ht2 := text_len (s := r.val) (by omega)
  repeat (first | refine cg_seq ?_ | refine cg_region ?_)
  refine rb rfl rfl rfl rfl (a_box rfl rfl) ?_; intro b2 k2 hb2 hN2 hle2 hk2
  have c2 := cells_at (vs := r.vs) hk2 rfl
  obtain ⟨p0, p1, p2, p3, p4⟩ := Rec.parts c2
  have c2' := cells_at (vs := r.vs) hk2 rfl
  repeat (first | refine cg_seq ?_ | refine cg_region ?_ | refine rg_nil ?_ | refine eg_then ?_ | refine qsp ?_ | refine qsg ?_)
  have q := recCheck_ct (k := k2) hr
  rw [hok] at q
  refine rs rfl rfl (loc_call_is rfl rfl rfl rfl (q)) ?_
  repeat (first | refine cg_seq ?_ | refine cg_region ?_ | refine rg_nil ?_ | refine eg_then ?_ | refine qsp ?_ | refine cg_cond_false rfl ?_ | refine cg_skip ?_)
  refine rs rfl rfl (loc_call_is rfl rfl rfl rfl (recIn_ct base)) ?_
  rw [hb]
  repeat (first | refine qsp ?_)
  refine rs rfl rfl (loc_call_is rfl rfl rfl rfl (recIn_ct stamp)) ?_
  rw [hs]
  obtain ⟨p0, p1, p2, p3, p4⟩ := Rec.parts c2
  repeat (first | refine cg_seq ?_ | refine cg_region ?_ | refine rg_nil ?_ | refine eg_then ?_ | refine qsp ?_ | refine qsl ?_ | refine qsf ?_ | refine cg_cond_false rfl ?_ | refine cg_skip ?_)
  apply meet (P := Try.prog) (F := F) (n := 46) (k := k2) [(1, .is (.int .i64 base)), (2, .is (.int .i64 stamp)), (3, .is (.pointer (some ⟨b2, 0, none⟩))), (9, .is (.int .u8 ((if r.dead then 1 else 0 : Nat) : Int)))] True
  · intro go
    cases qd : r.dead
    · repeat (first | refine cg_seq ?_ | refine eg_then ?_ | refine cg_cond_false rfl ?_ | refine cg_skip ?_)
      exact go _ trivial ⟨rfl, rfl, rfl, by rw [qd]; rfl, trivial⟩
    · repeat (first | refine cg_seq ?_ | refine cg_region ?_ | refine rg_nil ?_ | refine eg_then ?_ | refine qsp ?_ | refine cg_cond_true rfl ?_)
      exact go _ trivial ⟨rfl, rfl, rfl, by rw [qd]; rfl, trivial⟩
  intro _
  refine cg_calls 10 (by kernel_rfl) (by kernel_rfl) rfl rfl ?_
  dsimp only [List.take]
  repeat (first | refine qcp ?_ | refine qcs ?_ | refine qcl ?_ | refine qcf ?_)
  refine wc_iv rfl (loci_ctn xn_size rfl rfl rfl rfl (Le.refl _) (fun M k k' v hle h => h.le hle) (putVar_ct (bs := []) (n := r.off - base) (sl_nilB _) (by simp) (by unfold I64; omega))) rfl ?_
  repeat (first | refine qcp ?_ | refine qcs ?_ | refine qcl ?_ | refine qcf ?_)
  refine wc_iv (φ := Made F.w0.heap.size k2 fun N k' v => BRow N k' v (varL (zigN (r.off - base)) ++ varL (zigN (r.stamp - stamp)))) rfl (LocI.elim 30 rfl (by kernel_rfl) (made_mono fun M k k' v hle h => h.le hle) ?_) rfl ?_
  · rintro v1 k1 hle1 ⟨M, hM1, hM2, hrow⟩
    simp only [List.nil_append] at hrow
    obtain ⟨a3, c3, rfl, h3⟩ := BRow.sl hrow (varL_bytes _)
    exact loci_ctn xn_size rfl rfl rfl rfl hle1 (fun M k k' v hle h => h.le hle) (putVar_ct (n := r.stamp - stamp) h3 (by omega) (by unfold I64; omega))
  skip
  refine wc_nil ?_
  intro k3 vs hle3 hvs
  obtain ⟨M, hM1, hM2, hrow3⟩ := hvs 35 _ rfl
  dsimp only [List.drop, nameE, nameP]
  generalize vs 35 = v3 at hrow3 ⊢
  have hrow3' := hrow3.N_le hM1
  have hap3 : Apart k2 v3 := hrow3.apart hM2
  obtain ⟨p0, p1, p2, p3, p4⟩ := Rec.parts ((c2.le hle3).delV (v := v3) (fun hg => by
    have := hap3 _ hg
    rw [hk2] at this; cases this))
  clear hvs
  repeat (first | refine cg_seq ?_ | refine rg_nil ?_ | refine eg_then ?_ | refine qsp ?_)
  refine cg_grow 10 3 v3 hrow3' (by kernel_rfl) (by kernel_rfl) rfl (by kernel_rfl) rfl ?_
  dsimp only [List.take]
  repeat (first | refine qcp ?_)
  refine wc_v rfl (loc_alloc rfl (a_slice rfl rfl rfl rfl (by kernel_rfl) rfl)) rfl ?_
  refine wc_e 0 rfl (eff_grow (j := 1) (news := [Value.int .u8 ((if r.dead then 1 else 0 : Nat) : Int)]) rfl rfl rfl rfl rfl (fun k1 u _ ⟨b, hu, hkb, _⟩ => ⟨b, 0, 1, hu, cells_at hkb rfl⟩) rfl (by simp [Value.oneCell']) rfl rfl (by rw [List.length_append]; unfold maxLen; omega) (by rw [List.length_append]; omega)) ?_
  repeat (first | refine qcl ?_ | refine qcf ?_)
  have hb6 : Bytes (varL (zigN (r.off - base)) ++ varL (zigN (r.stamp - stamp)) ++ [if r.dead then 1 else 0]) := ((varL_bytes _).append (varL_bytes _)).append fun x hx => by simp at hx; rw [hx]; split <;> decide
  have hl6 : (varL (zigN (r.off - base)) ++ varL (zigN (r.stamp - stamp)) ++ [if r.dead then 1 else 0]).length ≤ 21 := by
    simp only [List.length_append, List.length_cons, List.length_nil]; omega
  refine wc_iv (φ := Made F.w0.heap.size (delV k3 v3) fun N k' v => BRow N k' v (varL (zigN (r.off - base)) ++ varL (zigN (r.stamp - stamp)) ++ [if r.dead then 1 else 0] ++ textL r.key)) rfl (LocI.elim 39 rfl (by kernel_rfl) (made_mono fun M k k' v hle h => h.le hle) ?_) rfl ?_
  · rintro v1 k1 hle1 hrow
    have hrow : BRow F.w0.heap.size k1 v1 (varL (zigN (r.off - base)) ++ varL (zigN (r.stamp - stamp)) ++ [if r.dead then 1 else 0]) := by
      unfold BRow
      rw [u8_snoc, List.length_append]
      exact hrow
    obtain ⟨a3, c3, rfl, h3⟩ := BRow.sl hrow hb6
    exact loci_ctn xg_size rfl rfl rfl rfl hle1 (fun M k k' v hle h => h.le hle) (putText_ct (s := r.key) h3 (by omega) (by omega))
  repeat (first | refine qcl ?_ | refine qcf ?_)
  refine wc_iv (φ := Made F.w0.heap.size (delV k3 v3) fun N k' v => BRow N k' v (recL r base stamp)) rfl (LocI.elim 42 rfl (by kernel_rfl) (made_mono fun M k k' v hle h => h.le hle) ?_) rfl ?_
  · rintro v1 k1 hle1 ⟨M, hM1, hM2, hrow⟩
    obtain ⟨a3, c3, rfl, h3⟩ := BRow.sl hrow (hb6.append ((varL_bytes _).append (strB_bytes _)))
    exact loci_ctn xg_size rfl rfl rfl rfl hle1 (fun M k k' v hle h => h.le hle) (putText_ct (s := r.val) h3 (by rw [List.length_append]; omega) (by omega))
  refine wc_nil ?_
  intro k4 vs hle4 hvs
  obtain ⟨M, hM1, hM2, hrow4⟩ := hvs 45 _ rfl
  dsimp only [List.drop, nameE, nameP]
  repeat (first | refine rg_nil ?_ | refine eg_then ?_ | refine qsp ?_ | refine cg_ret ?_)
  exact eg_return2 rfl rfl rfl ⟨_, rfl, hrow4.N_le hM1⟩
end Go.Wm

/-
  What bytes make, done anew, the program's. Conditions: that what is handed in reads as data.
-/
import Derived.Test.YtgalkgidjpbiaaaGreatV1
import Derived.Test.YtgalkgidjpbiaaaGreatR10
import Derived.Test.YtgalkgidjpbiaaaGreatE10
import Derived.Test.YtgalkgidjpbiaaaGreatL1
set_option linter.all false
namespace Go.Wm
open Go.RowKit Go.Proofs
attribute [local irreducible] RG CG EG WA Loc Det Alc CT Exit.then Exit.inBlock Code.wp bodyPost
set_option maxHeartbeats 4000000 in
theorem refSave_ctn {k : PH} {s : Step} (hok : s.ok) : CTN Tryz.prog 14 #[.agg s.vs.toArray] k (SaveV s) := by
  refine ctn_of_body (l := [_]) Tryz.func14 rfl Tryz.ntmps14 (by simp) SaveV.mono fun F hF0 hFm => ?_
  repeat (first | refine cg_seq ?_ | refine cg_region ?_)
  refine rb rfl rfl rfl rfl (a_box rfl rfl) ?_; intro b1 k1 hb1 hN1 hle1 hk1
  have cs := cells_at (vs := s.vs) hk1 rfl
  repeat (first | refine cg_seq ?_ | refine cg_region ?_ | refine rg_nil ?_ | refine eg_then ?_ | refine qsp ?_ | refine qsg ?_)
  refine rs rfl rfl (loc_call_is rfl rfl rfl rfl (refForm_ct s hok)) ?_
  repeat (first | refine rg_nil ?_ | refine eg_then ?_ | refine qsp ?_)
  cases q : formS s
  · repeat (first | refine cg_seq ?_ | refine cg_region ?_ | refine rg_nil ?_ | refine eg_then ?_ | refine qsp ?_ | refine cg_cond_true rfl ?_ | refine cg_ret ?_ | refine eg_then_ret ?_)
    refine eg_return2 rfl rfl rfl ?_
    unfold SaveV; rw [q]; rfl
  obtain ⟨n1, n8⟩ := form_kind q
  obtain ⟨z1, z2⟩ := name_le q
  obtain ⟨s0, s1, s2, s3, s4, s5⟩ := Step.parts cs
  obtain ⟨kn, hkn⟩ : ∃ kn, s.kind.toNat = kn := ⟨_, rfl⟩
  have hke : s.kind = ((kn : Nat) : Int) := by omega
  have hw : IntKind.u8.wrap s.kind = ((kn % 256 : Nat) : Int) := by
    rw [hke]; exact wrap8 kn
  have hk256 : bigL kn 1 1 = [kn % 256] := by simp [bigL, List.range_succ]
  repeat (first | refine cg_seq ?_ | refine eg_then ?_ | refine cg_cond_false rfl ?_ | refine cg_skip ?_)
  refine cg_calls 10 (by kernel_rfl) (by kernel_rfl) rfl rfl ?_
  dsimp only [List.take]
  repeat (first | refine qcl ?_ | refine qcf ?_)
  refine wc_s rfl (loc_det rfl (d_conv rfl rfl)) rfl ?_
  rw [hw]
  refine wc_iv rfl (loci_newN xn_size rfl (Le.refl _) (a_slice (cells := [.int .u8 ((kn % 256 : Nat) : Int)]) rfl rfl rfl rfl (by kernel_rfl) rfl)) rfl ?_
  repeat (first | refine qcl ?_ | refine qcf ?_)
  refine wc_iv (φ := Made F.w0.heap.size k1 (fun N k v => BRow N k v (bigL kn 1 1 ++ textL s.name))) rfl (LocI.elim 13 rfl (by kernel_rfl) (made_mono fun M k k' v hle h => h.le hle) ?_) rfl ?_
  · rintro v k2 hle2 ⟨g, rfl, hkg, _⟩
    have hs2 : Sl tU8 k2 (some ⟨g, 0, none⟩) 1 (bigL kn 1 1) := by
      rw [hk256]
      exact sl_rows (xs := [kn % 256]) (css := [[.int .u8 ((kn % 256 : Nat) : Int)]]) hkg rfl rfl (fun i cs v g1 g2 => by
        match i, g1, g2 with
        | 0, g1, g2 => simp at g1 g2; rw [← g1, ← g2]; exact ⟨rfl, by omega⟩) (by simp [maxLen])
    exact loci_ctn xn_size rfl rfl rfl rfl hle2 (fun M k k' v hle h => h.le hle) (refPutText_ct hs2 (by simp [bigL_len]) (by omega))
  repeat (first | refine qcl ?_ | refine qcf ?_)
  refine wc_iv (φ := Made F.w0.heap.size k1 (fun N k v => BRow N k v (bigL kn 1 1 ++ textL s.name ++ textL s.topic))) rfl (LocI.elim 16 rfl (by kernel_rfl) (made_mono fun M k k' v hle h => h.le hle) ?_) rfl ?_
  · rintro v k2 hle2 ⟨M, _, _, hrow⟩
    obtain ⟨a2, c2, rfl, hs2⟩ := hrow.sl ((bigL_bytes _ _ _).append (textL_bytes _))
    have t1 := textL_len z1
    exact loci_ctn xn_size rfl rfl rfl rfl hle2 (fun M k k' v hle h => h.le hle) (refPutText_ct hs2 (by rw [List.length_append, bigL_len]; omega) (by omega))
  refine wc_nil ?_
  intro k3 vs hle3 hvs
  obtain ⟨M, hM, _, hrow3⟩ := hvs 19 _ rfl
  clear hvs
  dsimp only [List.drop]
  simp only [nameE, nameP]
  generalize vs 19 = v3 at hrow3 ⊢
  obtain ⟨s0, s1, s2, s3, s4, s5⟩ := Step.parts (cs.le hle3)
  repeat (first | refine cg_seq ?_ | refine cg_region ?_ | refine rg_nil ?_ | refine eg_then ?_ | refine qsp ?_ | refine qsl ?_ | refine qsf ?_)
  refine rb rfl rfl rfl rfl (a_slice (cells := [s.a, s.b, s.c].map (Value.int .i64)) rfl rfl rfl rfl (by kernel_rfl) rfl) ?_; intro b4 k4 hb4 hN4 hle4 hk4
  have c4 := cells_at (vs := [s.a, s.b, s.c].map (Value.int .i64)) hk4 rfl
  have hrow4 := (hrow3.le hle4).N_le hM
  obtain ⟨pre, hpre⟩ : ∃ pre, bigL kn 1 1 ++ textL s.name ++ textL s.topic = pre := ⟨_, rfl⟩
  have hpb : Bytes pre := by rw [← hpre]; exact ((bigL_bytes _ _ _).append (textL_bytes _)).append (textL_bytes _)
  have hpl : pre.length ≤ 149 := by
    have t1 := textL_len z1; have t2 := textL_len z2
    rw [← hpre, List.length_append, List.length_append, bigL_len]; omega
  rw [hpre] at hrow4
  clear hrow3
  have hnum : ∀ n ∈ [s.a, s.b, s.c], I64 n := by
    intro n hn
    simp at hn
    rcases hn with rfl | rfl | rfl
    · exact hok.2.2.2.1
    · exact hok.2.2.2.2.1
    · exact hok.2.2.2.2.2
  repeat (first | refine rg_nil ?_ | refine eg_then ?_ | refine qsp ?_ | refine qsn ?_ | refine cg_block ?_)
  refine cg_loop (fun (i : Nat) e k' => ∃ v, Le k4 k' ∧ BRow F.w0.heap.size k' v (pre ++ ([s.a, s.b, s.c].take i).flatMap fun n => varL (zigN n)) ∧ i ≤ 3 ∧ e = [(4, .is v), (26, .is (.slice (some ⟨b4, 0, none⟩) 3 3)), (27, .is (.int .i64 3)), (28, .is (.int .i64 (i : Int)))])
    (fun i => 3 - i) 0 ⟨v3, Le.refl _, by simpa using hrow4, by omega, rfl⟩ ⟨rfl, rfl, rfl, rfl, trivial⟩ ?_
  rintro i e k5 ⟨v5, hle5, hrow5, hi, rfl⟩
  repeat (first | refine cg_seq ?_ | refine cg_region ?_ | refine rg_nil ?_ | refine eg_then ?_ | refine qsp ?_)
  refine cg_cond rfl (fun h => ?_) (fun h => ?_)
  · have hlt : i < 3 := by have := of_decide_eq_true h; omega
    obtain ⟨t, ht⟩ : ∃ t : Int, [s.a, s.b, s.c][i]? = some t := ⟨_, List.getElem?_eq_getElem hlt⟩
    have ct : Cells k5 b4 (0 + i * 1) [.int .i64 t] := by
      rw [Nat.mul_one]
      exact (c4.le hle5).one (by rw [List.getElem?_map, ht]; rfl)
    obtain ⟨a5, c5, rfl, hs5⟩ := hrow5.sl (hpb.append fun x hx => by
      obtain ⟨n, _, hn⟩ := List.mem_flatMap.1 hx
      exact varL_bytes _ x hn)
    repeat (first | refine cg_seq ?_ | refine cg_region ?_ | refine rg_nil ?_ | refine eg_then ?_ | refine qsp ?_ | refine qsi ?_ | refine qsl ?_ | refine cg_skip ?_ | refine cg_block ?_)
    refine rvn rfl rfl rfl rfl rfl rfl rfl (refPutVar_ct hs5 (by
      have : ∀ (l : List Int), (∀ n ∈ l, I64 n) → (l.flatMap fun n => varL (zigN n)).length ≤ 10 * l.length := by
        intro l
        induction l with
        | nil => simp
        | cons n l ih =>
          intro h
          have := varL_ten (zigN_lt (h n (by simp)))
          have := ih fun m hm => h m (by simp [hm])
          rw [List.flatMap_cons, List.length_append, List.length_cons]; omega
      have h1 := this ([s.a, s.b, s.c].take i) fun n hn => hnum n (List.mem_of_mem_take hn)
      have h2 : ([s.a, s.b, s.c].take i).length ≤ 3 := by rw [List.length_take]; simp; omega
      rw [List.length_append]; omega) (hnum t (List.mem_of_getElem? ht))) ?_
    rintro N6 k6 v6 hN6 _ hle6 hrow6
    repeat (first | refine cg_region ?_ | refine rg_nil ?_ | refine eg_then ?_ | refine qsp ?_ | refine qsa ?_ | refine eg_in_normal ?_)
    refine eg_again (i + 1) _ ⟨v6, hle5.trans hle6, ?_, hlt, rfl⟩ (by omega) ⟨rfl, rfl, rfl, rfl, trivial⟩
    rw [flat_succ _ ht, ← List.append_assoc]
    exact hrow6.N_le hN6
  have hi3 : i = 3 := by have := of_decide_eq_false h; omega
  subst hi3
  have hstep : pre ++ ([s.a, s.b, s.c].take 3).flatMap (fun n => varL (zigN n)) = stepL s := by
    rw [← hpre, ← hkn]; simp [stepL]
  rw [hstep] at hrow5
  have hsb : Bytes (stepL s) := by
    rw [← hstep]
    exact hpb.append fun x hx => by
      obtain ⟨n, _, hn⟩ := List.mem_flatMap.1 hx
      exact varL_bytes _ x hn
  have hsl : (stepL s).length ≤ 179 := by
    have v1 := varL_ten (zigN_lt (hnum s.a (by simp))); have v2 := varL_ten (zigN_lt (hnum s.b (by simp))); have v3 := varL_ten (zigN_lt (hnum s.c (by simp)))
    rw [← hstep]; simp; omega
  obtain ⟨a5, c5, rfl, hs5⟩ := hrow5.sl hsb
  repeat (first | refine cg_seq ?_ | refine cg_region ?_ | refine eg_then ?_ | refine qsp ?_ | refine cg_exit ?_ | refine eg_then_exit ?_ | refine eg_in_exit ?_)
  refine rvn rfl rfl rfl rfl rfl rfl rfl (refSeal_ct hs5 (by omega)) ?_
  rintro N6 k6 v6 hN6 _ hle6 hrow6
  obtain ⟨a6, c6, rfl, hs6⟩ := hrow6.sl (hsb.append (bigL_bytes _ _ _))
  have hzl : (sealL (stepL s)).length ≤ 183 := by rw [sealL_len]; omega
  repeat (first | refine cg_seq ?_ | refine cg_region ?_ | refine rg_nil ?_ | refine eg_then ?_ | refine qsp ?_ | refine qsn ?_)
  refine rs rfl rfl (loc_det rfl (d_conv rfl rfl)) ?_
  rw [wrap64 (n := (sealL (stepL s)).length) (by omega)]
  refine rvn rfl rfl rfl rfl rfl rfl rfl (refPut4_ct (sl_nilB _) (by simp) (by omega)) ?_
  rintro N7 k7 v7 hN7 _ hle7 hrow7
  repeat (first | refine qsp ?_)
  refine rapsB rfl rfl rfl rfl rfl rfl rfl (hrow7.N_le hN7) (hs6.le hle7) (Le.refl _) (by rw [List.nil_append, bigL_len]; omega) ?_
  intro v8 k8 hrow8 _
  repeat (first | refine rg_nil ?_ | refine eg_then ?_ | refine qsp ?_ | refine cg_ret ?_)
  refine eg_return2 rfl rfl rfl ?_
  unfold SaveV
  rw [if_pos q]
  exact ⟨v8, rfl, hrow8⟩
end Go.Wm
namespace Go.Wm
open Go.RowKit Go.Proofs
attribute [local irreducible] RG CG EG WA Loc Det Alc CT Exit.then Exit.inBlock Code.wp bodyPost
def loadVal (q : Step × Int × Int) : Value := .tuple #[.agg q.1.vs.toArray, .int .i64 q.2.1, .int .i64 q.2.2]
def LoadV (bs : List Nat) (p : Int) (v : Value) : Prop := v = loadVal (loadR bs p) ∧ (loadR bs p).1.ok
theorem loadV_no {bs : List Nat} {p : Int} {e : Int} (h : loadR bs p = (noStep, 0, e)) : LoadV bs p (.tuple #[.agg noStep.vs.toArray, .int .i64 0, .int .i64 e]) := by
  unfold LoadV; rw [h]; exact ⟨rfl, noStep_ok⟩
theorem getR_lt {bs : List Nat} (hb : Bytes bs) (p : Int) : (getR bs p 4).1 < 4294967296 := by
  unfold getR
  split
  · decide
  split
  · decide
  · have h1 := fromL_lt ((bs.drop p.toNat).take 4) fun x hx => hb x (List.mem_of_mem_drop (List.mem_of_mem_take hx))
    have h2 : 256 ^ ((bs.drop p.toNat).take 4).length ≤ 4294967296 := Nat.le_trans (Nat.pow_le_pow_right (by decide) (show _ ≤ 4 by rw [List.length_take]; omega)) (by decide)
    exact Nat.lt_of_lt_of_le h1 h2
theorem getR_in {bs : List Nat} {p : Int} (h : (getR bs p 4).2 = 0) : 0 ≤ p ∧ p.toNat + 4 ≤ bs.length := by
  unfold getR at h
  split at h
  · simp at h
  split at h
  · simp at h
  · omega
theorem openR_bytes {bs : List Nat} (hb : Bytes bs) : Bytes (openR bs).1 ∧ (openR bs).1.length ≤ bs.length := by
  unfold openR
  split
  · exact ⟨fun x hx => by simp at hx, by simp⟩
  split
  · exact ⟨fun x hx => hb x (List.mem_of_mem_take hx), by rw [List.length_take]; omega⟩
  · exact ⟨fun x hx => by simp at hx, by simp⟩
set_option maxHeartbeats 4000000 in
theorem load_ct {k : PH} {a : Option Addr} {c : Nat} {bs : List Nat} {p : Int} (h : Sl tU8 k a c bs) (hp : I64 p) (hl : bs.length ≤ 1000000) : CT Tryz.prog 15 #[.slice a bs.length c, .int .i64 p] k (fun _ v => LoadV bs p v) := by
  refine ct_of_body (l := [_, _]) Tryz.func15 rfl Tryz.ntmps15 (by simp) (fun _ _ _ _ h => h) fun F hF0 hFm => ?_
  have hby := sl_bytes h
  have b1' := h.cap; have b2' := h.max; unfold maxLen at b2'
  repeat (first | refine cg_seq ?_ | refine cg_region ?_)
  refine rb rfl rfl rfl rfl (a_alloc rfl) ?_; intro b1 k1 hb1 hN1 hle1 hk1
  have hk1 : k1 b1 = some (.cells noStep.vs.toArray 35 (0, 0)) := hk1
  have h1 := h.le hle1
  repeat (first | refine cg_seq ?_ | refine cg_region ?_ | refine rg_nil ?_ | refine eg_then ?_ | refine qsp ?_)
  refine rs rfl rfl (loc_call_is rfl rfl rfl rfl (get_ct (w := 4) h1 hp (by omega) (by omega) (by omega))) ?_
  repeat (first | refine cg_seq ?_ | refine cg_region ?_ | refine rg_nil ?_ | refine eg_then ?_ | refine qsp ?_)
  have hgl := getR_lt hby p
  have hgi : (getR bs p 4).2 = 0 → _ := getR_in
  have hld : loadR bs p = if (getR bs p 4).2 ≠ 0 then (noStep, 0, (getR bs p 4).2) else if (getR bs p 4).1 < 5 ∨ 4092 < (getR bs p 4).1 then (noStep, 0, 11) else if bs.length < p.toNat + 4 + (getR bs p 4).1 then (noStep, 0, 10) else bodyR (openR ((bs.drop (p.toNat + 4)).take (getR bs p 4).1)) (p + 4 + ((getR bs p 4).1 : Nat)) := rfl
  generalize getR bs p 4 = g at hgl hgi hld ⊢
  obtain ⟨n, e0⟩ := g
  dsimp only at hgl hgi hld ⊢
  cases q0 : (e0 != 0)
  case true =>
    repeat (first | refine cg_seq ?_ | refine cg_region ?_ | refine cg_cond_true rfl ?_)
    refine rs rfl rfl (loc_det rfl (d_lit (cells := noStep.vs) rfl rfl rfl)) ?_
    repeat (first | refine qsp ?_)
    refine rw1 (vs := noStep.vs) rfl rfl rfl rfl rfl rfl rfl hk1 rfl (.inl hN1) ?_ ?_
    · simp [noStep, Step.vs, Value.oneCell']
    intro k9 ht9 hk9
    repeat (first | refine rg_nil ?_ | refine eg_then ?_ | refine qsp ?_ | refine cg_ret ?_ | refine eg_then_ret ?_)
    refine eg_returnC3 rfl rfl rfl rfl rfl (cells_step hk9) rfl (loadV_no ?_)
    rw [hld, if_pos (by simpa using q0)]
  have q0 : e0 = 0 := by simpa using q0
  subst q0
  obtain ⟨p0, p4⟩ := hgi rfl
  obtain ⟨m, rfl⟩ : ∃ m : Nat, p = (m : Int) := ⟨p.toNat, by omega⟩
  rw [Int.toNat_natCast] at p4
  rw [if_neg (by simp), Int.toNat_natCast] at hld
  repeat (first | refine cg_seq ?_ | refine cg_region ?_ | refine eg_then ?_ | refine qsp ?_ | refine cg_cond_false rfl ?_ | refine cg_skip ?_)
  refine rs rfl rfl (loc_det rfl (d_cmp rfl rfl rfl rfl)) ?_
  repeat (first | refine qsp ?_)
  cases q1 : decide ((n : Int) < 5)
  case true =>
    have q1 := of_decide_eq_true q1
    repeat (first | refine cg_seq ?_ | refine cg_region ?_ | refine rg_nil ?_ | refine eg_then ?_ | refine qsp ?_ | refine qso ?_ | refine cg_cond_true rfl ?_)
    refine rs rfl rfl (loc_det rfl (d_lit (cells := noStep.vs) rfl rfl rfl)) ?_
    skip
    refine rw1 (vs := noStep.vs) rfl rfl rfl rfl rfl rfl rfl hk1 rfl (.inl hN1) ?_ ?_
    · simp [noStep, Step.vs, Value.oneCell']
    intro k9 ht9 hk9
    repeat (first | refine rg_nil ?_ | refine eg_then ?_ | refine qsp ?_ | refine cg_ret ?_ | refine eg_then_ret ?_)
    refine eg_returnC3 rfl rfl rfl rfl rfl (cells_step hk9) rfl (loadV_no ?_)
    rw [hld, if_pos (.inl (by omega))]
  have q1 := of_decide_eq_false q1
  repeat (first | refine qsp ?_)
  refine rs rfl rfl (loc_det rfl (d_cmp rfl rfl rfl rfl)) ?_
  repeat (first | refine rg_nil ?_ | refine eg_then ?_ | refine qsp ?_)
  cases q2 : decide ((n : Int) > 4092)
  case true =>
    have q2 := of_decide_eq_true q2
    repeat (first | refine cg_seq ?_ | refine cg_region ?_ | refine cg_cond_true rfl ?_)
    refine rs rfl rfl (loc_det rfl (d_lit (cells := noStep.vs) rfl rfl rfl)) ?_
    skip
    refine rw1 (vs := noStep.vs) rfl rfl rfl rfl rfl rfl rfl hk1 rfl (.inl hN1) ?_ ?_
    · simp [noStep, Step.vs, Value.oneCell']
    intro k9 ht9 hk9
    repeat (first | refine rg_nil ?_ | refine eg_then ?_ | refine qsp ?_ | refine cg_ret ?_ | refine eg_then_ret ?_)
    refine eg_returnC3 rfl rfl rfl rfl rfl (cells_step hk9) rfl (loadV_no ?_)
    rw [hld, if_pos (.inr (by omega))]
  have q2 := of_decide_eq_false q2
  rw [if_neg (by omega)] at hld
  repeat (first | refine cg_seq ?_ | refine cg_region ?_ | refine eg_then ?_ | refine qsp ?_ | refine qsa ?_ | refine cg_cond_false rfl ?_ | refine cg_skip ?_)
  rw [show (m : Int) + 4 = ((m + 4 : Nat) : Int) by omega]
  refine rs rfl rfl (loc_det rfl (d_suf h1 rfl rfl rfl p4)) ?_
  have hs4 := h1.drop p4
  have hrl : (bs.drop (m + 4)).length = bs.length - (m + 4) := by rw [List.length_drop]
  generalize hsa : shiftA c (m + 4) tU8.sz a = a' at hs4
  have hsa' : shiftA c (m + 4) 1 a = a' := hsa
  try rw [hsa']
  try rw [hsa]
  repeat (first | refine cg_seq ?_ | refine cg_region ?_ | refine rg_nil ?_ | refine eg_then ?_ | refine qsp ?_ | refine qsn ?_)
  refine rs rfl rfl (loc_det rfl (d_conv rfl rfl)) ?_
  rw [wrapi (by unfold I64; omega)]
  repeat (first | refine rg_nil ?_ | refine eg_then ?_ | refine qsp ?_)
  cases q3 : decide ((((bs.drop (m + 4)).length : Nat) : Int) < (n : Int))
  case true =>
    have q3 := of_decide_eq_true q3
    repeat (first | refine cg_seq ?_ | refine cg_region ?_ | refine cg_cond_true rfl ?_)
    refine rs rfl rfl (loc_det rfl (d_lit (cells := noStep.vs) rfl rfl rfl)) ?_
    skip
    refine rw1 (vs := noStep.vs) rfl rfl rfl rfl rfl rfl rfl hk1 rfl (.inl hN1) ?_ ?_
    · simp [noStep, Step.vs, Value.oneCell']
    intro k9 ht9 hk9
    repeat (first | refine rg_nil ?_ | refine eg_then ?_ | refine qsp ?_ | refine cg_ret ?_ | refine eg_then_ret ?_)
    refine eg_returnC3 rfl rfl rfl rfl rfl (cells_step hk9) rfl (loadV_no ?_)
    rw [hld, if_pos (by omega)]
  have q3 := of_decide_eq_false q3
  rw [if_neg (by omega)] at hld
  repeat (first | refine cg_seq ?_ | refine cg_region ?_ | refine eg_then ?_ | refine qsp ?_ | refine cg_cond_false rfl ?_ | refine cg_skip ?_)
  refine rs rfl rfl (loc_det rfl (d_pre hs4 rfl rfl rfl (by omega))) ?_
  have hs5 := hs4.take n
  have hb5 := sl_bytes hs5
  generalize hseg : (bs.drop (m + 4)).take n = seg at hs5 hb5 hld ⊢
  have hsegl : seg.length = n := by rw [← hseg, List.length_take]; omega
  refine rvn rfl rfl rfl rfl rfl rfl rfl (open_ctn hs5 (by omega)) ?_
  rintro N2 k2 v2 hN2 _ hle2 ⟨u, rfl, hrow⟩
  obtain ⟨ob, ol⟩ := openR_bytes hb5
  generalize openR seg = o at hrow hld ob ol ⊢
  obtain ⟨body, e1⟩ := o
  dsimp only at hrow ob ol ⊢
  obtain ⟨a6, c6, rfl, hs6⟩ := hrow.sl ob
  have hk1 : k2 b1 = some (.cells noStep.vs.toArray 35 (0, 0)) := hle2 _ _ hk1
  unfold bodyR at hld
  dsimp only at hld
  repeat (first | refine cg_seq ?_ | refine cg_region ?_ | refine rg_nil ?_ | refine eg_then ?_ | refine qsp ?_)
  cases q4 : (e1 != 0)
  case true =>
    repeat (first | refine cg_seq ?_ | refine cg_region ?_ | refine cg_cond_true rfl ?_)
    refine rs rfl rfl (loc_det rfl (d_lit (cells := noStep.vs) rfl rfl rfl)) ?_
    repeat (first | refine qsp ?_)
    refine rw1 (vs := noStep.vs) rfl rfl rfl rfl rfl rfl rfl hk1 rfl (.inl hN1) ?_ ?_
    · simp [noStep, Step.vs, Value.oneCell']
    intro k9 ht9 hk9
    repeat (first | refine rg_nil ?_ | refine eg_then ?_ | refine qsp ?_ | refine cg_ret ?_ | refine eg_then_ret ?_)
    refine eg_returnC3 rfl rfl rfl rfl rfl (cells_step hk9) rfl (loadV_no ?_)
    rw [hld, if_pos (by simpa using q4)]
  have q4 : e1 = 0 := by simpa using q4
  rw [if_neg (by simp [q4])] at hld
  repeat (first | refine cg_seq ?_ | refine cg_region ?_ | refine eg_then ?_ | refine qsp ?_ | refine cg_cond_false rfl ?_ | refine cg_skip ?_)
  refine rv rfl rfl rfl (loc_call rfl rfl rfl rfl (fun k k' v hle h => h) (read_ct hs6 (by omega))) ?_
  rintro k3 hle3 v3 ⟨s, ok, rfl, hsok, hrd⟩
  have hk1 : k3 b1 = some (.cells noStep.vs.toArray 35 (0, 0)) := hle3 _ _ hk1
  repeat (first | refine qsp ?_)
  refine rw1 (vs := s.vs) rfl rfl rfl rfl rfl rfl rfl hk1 rfl (.inl hN1) ?_ ?_
  · simp [Step.vs, Value.oneCell']
  intro k4 ht4 hk1
  have c4 := cells_step hk1
  cases ok
  · repeat (first | refine cg_seq ?_ | refine cg_region ?_ | refine rg_nil ?_ | refine eg_then ?_ | refine qsp ?_ | refine qso ?_ | refine cg_cond_true rfl ?_)
    rw [if_neg (by simp)] at hrd
    rw [hrd] at hld
    skip
    refine rs rfl rfl (loc_det rfl (d_lit (cells := noStep.vs) rfl rfl rfl)) ?_
    skip
    refine rw1 (vs := noStep.vs) rfl rfl rfl rfl rfl rfl rfl hk1 rfl (.inl hN1) ?_ ?_
    · simp [noStep, Step.vs, Value.oneCell']
    intro k9 ht9 hk9
    repeat (first | refine rg_nil ?_ | refine eg_then ?_ | refine qsp ?_ | refine cg_ret ?_ | refine eg_then_ret ?_)
    refine eg_returnC3 rfl rfl rfl rfl rfl (cells_step hk9) rfl (loadV_no ?_)
    exact hld
  rw [if_pos rfl] at hrd
  rw [hrd] at hld
  dsimp only at hld
  repeat (first | refine cg_seq ?_ | refine cg_region ?_ | refine rg_nil ?_ | refine eg_then ?_ | refine qsp ?_ | refine qsg ?_)
  refine rs rfl rfl (loc_call_is rfl rfl rfl rfl (formed_ct s hsok)) ?_
  repeat (first | refine rg_nil ?_ | refine eg_then ?_ | refine qsp ?_)
  cases q5 : formS s
  · repeat (first | refine cg_seq ?_ | refine cg_region ?_ | refine cg_cond_true rfl ?_)
    rw [q5, if_neg (by simp)] at hld
    skip
    refine rs rfl rfl (loc_det rfl (d_lit (cells := noStep.vs) rfl rfl rfl)) ?_
    skip
    refine rw1 (vs := noStep.vs) rfl rfl rfl rfl rfl rfl rfl hk1 rfl (.inl hN1) ?_ ?_
    · simp [noStep, Step.vs, Value.oneCell']
    intro k9 ht9 hk9
    repeat (first | refine rg_nil ?_ | refine eg_then ?_ | refine qsp ?_ | refine cg_ret ?_ | refine eg_then_ret ?_)
    refine eg_returnC3 rfl rfl rfl rfl rfl (cells_step hk9) rfl (loadV_no ?_)
    exact hld
  · rw [q5, if_pos rfl] at hld
    repeat (first | refine cg_seq ?_ | refine cg_region ?_ | refine eg_then ?_ | refine qsp ?_ | refine qsa ?_ | refine qsg ?_ | refine cg_cond_false rfl ?_ | refine cg_skip ?_)
    refine rs rfl rfl (loc_det rfl (d_conv rfl rfl)) ?_
    rw [wrapi (by unfold I64; omega)]
    repeat (first | refine qsa ?_)
    refine rw1 (vs := s.vs) rfl rfl rfl rfl rfl rfl rfl hk1 rfl (.inl hN1) ?_ ?_
    · simp [Step.vs, Value.oneCell']
    intro k9 ht9 hk9
    repeat (first | refine rg_nil ?_ | refine eg_then ?_ | refine qsp ?_ | refine cg_ret ?_)
    refine eg_returnC3 rfl rfl rfl rfl rfl (cells_step hk9) rfl ?_
    unfold LoadV
    rw [hld]
    exact ⟨rfl, hsok⟩
end Go.Wm
namespace Go.Wm
open Go.RowKit Go.Proofs
attribute [local irreducible] RG CG EG WA Loc Det Alc CT Exit.then Exit.inBlock Code.wp bodyPost
set_option maxHeartbeats 4000000 in
theorem refLoad_ct {k : PH} {a : Option Addr} {c : Nat} {bs : List Nat} {p : Int} (h : Sl tU8 k a c bs) (hp : I64 p) (hl : bs.length ≤ 1000000) : CT Tryz.prog 16 #[.slice a bs.length c, .int .i64 p] k (fun _ v => LoadV bs p v) := by
  refine ct_of_body (l := [_, _]) Tryz.func16 rfl Tryz.ntmps16 (by simp) (fun _ _ _ _ h => h) fun F hF0 hFm => ?_
  have hby := sl_bytes h
  have b1' := h.cap; have b2' := h.max; unfold maxLen at b2'
  repeat (first | refine cg_seq ?_ | refine cg_region ?_)
  refine rb rfl rfl rfl rfl (a_alloc rfl) ?_; intro b1 k1 hb1 hN1 hle1 hk1
  have hk1 : k1 b1 = some (.cells noStep.vs.toArray 35 (0, 0)) := hk1
  have h1 := h.le hle1
  repeat (first | refine cg_seq ?_ | refine cg_region ?_ | refine rg_nil ?_ | refine eg_then ?_ | refine qsp ?_)
  refine rs rfl rfl (loc_call_is rfl rfl rfl rfl (refGet_ct (w := 4) h1 hp (by omega) (by omega) (by omega))) ?_
  repeat (first | refine cg_seq ?_ | refine cg_region ?_ | refine rg_nil ?_ | refine eg_then ?_ | refine qsp ?_)
  have hgl := getR_lt hby p
  have hgi : (getR bs p 4).2 = 0 → _ := getR_in
  have hld : loadR bs p = if (getR bs p 4).2 ≠ 0 then (noStep, 0, (getR bs p 4).2) else if (getR bs p 4).1 < 5 ∨ 4092 < (getR bs p 4).1 then (noStep, 0, 11) else if bs.length < p.toNat + 4 + (getR bs p 4).1 then (noStep, 0, 10) else bodyR (openR ((bs.drop (p.toNat + 4)).take (getR bs p 4).1)) (p + 4 + ((getR bs p 4).1 : Nat)) := rfl
  generalize getR bs p 4 = g at hgl hgi hld ⊢
  obtain ⟨n, e0⟩ := g
  dsimp only at hgl hgi hld ⊢
  cases q0 : (e0 != 0)
  case true =>
    repeat (first | refine cg_seq ?_ | refine cg_region ?_ | refine cg_cond_true rfl ?_)
    refine rs rfl rfl (loc_det rfl (d_lit (cells := noStep.vs) rfl rfl rfl)) ?_
    repeat (first | refine qsp ?_)
    refine rw1 (vs := noStep.vs) rfl rfl rfl rfl rfl rfl rfl hk1 rfl (.inl hN1) ?_ ?_
    · simp [noStep, Step.vs, Value.oneCell']
    intro k9 ht9 hk9
    repeat (first | refine rg_nil ?_ | refine eg_then ?_ | refine qsp ?_ | refine cg_ret ?_ | refine eg_then_ret ?_)
    refine eg_returnC3 rfl rfl rfl rfl rfl (cells_step hk9) rfl (loadV_no ?_)
    rw [hld, if_pos (by simpa using q0)]
  have q0 : e0 = 0 := by simpa using q0
  subst q0
  obtain ⟨p0, p4⟩ := hgi rfl
  obtain ⟨m, rfl⟩ : ∃ m : Nat, p = (m : Int) := ⟨p.toNat, by omega⟩
  rw [Int.toNat_natCast] at p4
  rw [if_neg (by simp), Int.toNat_natCast] at hld
  repeat (first | refine cg_seq ?_ | refine cg_region ?_ | refine eg_then ?_ | refine qsp ?_ | refine cg_cond_false rfl ?_ | refine cg_skip ?_)
  refine rs rfl rfl (loc_det rfl (d_cmp rfl rfl rfl rfl)) ?_
  repeat (first | refine qsp ?_)
  cases q1 : decide ((n : Int) < 5)
  case true =>
    have q1 := of_decide_eq_true q1
    repeat (first | refine cg_seq ?_ | refine cg_region ?_ | refine rg_nil ?_ | refine eg_then ?_ | refine qsp ?_ | refine qso ?_ | refine cg_cond_true rfl ?_)
    refine rs rfl rfl (loc_det rfl (d_lit (cells := noStep.vs) rfl rfl rfl)) ?_
    skip
    refine rw1 (vs := noStep.vs) rfl rfl rfl rfl rfl rfl rfl hk1 rfl (.inl hN1) ?_ ?_
    · simp [noStep, Step.vs, Value.oneCell']
    intro k9 ht9 hk9
    repeat (first | refine rg_nil ?_ | refine eg_then ?_ | refine qsp ?_ | refine cg_ret ?_ | refine eg_then_ret ?_)
    refine eg_returnC3 rfl rfl rfl rfl rfl (cells_step hk9) rfl (loadV_no ?_)
    rw [hld, if_pos (.inl (by omega))]
  have q1 := of_decide_eq_false q1
  repeat (first | refine qsp ?_)
  refine rs rfl rfl (loc_det rfl (d_cmp rfl rfl rfl rfl)) ?_
  repeat (first | refine rg_nil ?_ | refine eg_then ?_ | refine qsp ?_)
  cases q2 : decide ((n : Int) > 4092)
  case true =>
    have q2 := of_decide_eq_true q2
    repeat (first | refine cg_seq ?_ | refine cg_region ?_ | refine cg_cond_true rfl ?_)
    refine rs rfl rfl (loc_det rfl (d_lit (cells := noStep.vs) rfl rfl rfl)) ?_
    skip
    refine rw1 (vs := noStep.vs) rfl rfl rfl rfl rfl rfl rfl hk1 rfl (.inl hN1) ?_ ?_
    · simp [noStep, Step.vs, Value.oneCell']
    intro k9 ht9 hk9
    repeat (first | refine rg_nil ?_ | refine eg_then ?_ | refine qsp ?_ | refine cg_ret ?_ | refine eg_then_ret ?_)
    refine eg_returnC3 rfl rfl rfl rfl rfl (cells_step hk9) rfl (loadV_no ?_)
    rw [hld, if_pos (.inr (by omega))]
  have q2 := of_decide_eq_false q2
  rw [if_neg (by omega)] at hld
  repeat (first | refine cg_seq ?_ | refine cg_region ?_ | refine eg_then ?_ | refine qsp ?_ | refine qsa ?_ | refine cg_cond_false rfl ?_ | refine cg_skip ?_)
  refine rs rfl rfl (loc_det rfl (d_conv rfl rfl)) ?_
  rw [wrapi (by unfold I64; omega)]
  repeat (first | refine cg_seq ?_ | refine cg_region ?_ | refine rg_nil ?_ | refine eg_then ?_ | refine qsp ?_ | refine qsn ?_ | refine qsa ?_)
  rw [show (m : Int) + 4 + (n : Int) = ((m + 4 + n : Nat) : Int) by omega]
  cases q3 : decide (((m + 4 + n : Nat) : Int) > (bs.length : Int))
  case true =>
    have q3 := of_decide_eq_true q3
    repeat (first | refine cg_seq ?_ | refine cg_region ?_ | refine cg_cond_true rfl ?_)
    refine rs rfl rfl (loc_det rfl (d_lit (cells := noStep.vs) rfl rfl rfl)) ?_
    skip
    refine rw1 (vs := noStep.vs) rfl rfl rfl rfl rfl rfl rfl hk1 rfl (.inl hN1) ?_ ?_
    · simp [noStep, Step.vs, Value.oneCell']
    intro k9 ht9 hk9
    repeat (first | refine rg_nil ?_ | refine eg_then ?_ | refine qsp ?_ | refine cg_ret ?_ | refine eg_then_ret ?_)
    refine eg_returnC3 rfl rfl rfl rfl rfl (cells_step hk9) rfl (loadV_no ?_)
    rw [hld, if_pos (by omega)]
  have q3 := of_decide_eq_false q3
  rw [if_neg (by omega)] at hld
  repeat (first | refine cg_seq ?_ | refine cg_region ?_ | refine eg_then ?_ | refine qsp ?_ | refine qsa ?_ | refine cg_cond_false rfl ?_ | refine cg_skip ?_)
  rw [show (m : Int) + 4 = ((m + 4 : Nat) : Int) by omega]
  refine rs rfl rfl (loc_det rfl (d_mid h1 rfl rfl rfl rfl (by omega) (by omega))) ?_
  have hs5 := (h1.take (m + 4 + n)).drop (i := m + 4) (by rw [List.length_take]; omega)
  have hel : (bs.take (m + 4 + n)).drop (m + 4) = (bs.drop (m + 4)).take n := by rw [List.drop_take]; congr 1; omega
  rw [hel] at hs5 ⊢
  have hb5 := sl_bytes hs5
  generalize hseg : (bs.drop (m + 4)).take n = seg at hs5 hb5 hld ⊢
  have hsegl : seg.length = n := by rw [← hseg, List.length_take, List.length_drop]; omega
  refine rvn rfl rfl rfl rfl rfl rfl rfl (refOpen_ctn hs5 (by omega)) ?_
  rintro N2 k2 v2 hN2 _ hle2 ⟨u, rfl, hrow⟩
  obtain ⟨ob, ol⟩ := openR_bytes hb5
  generalize openR seg = o at hrow hld ob ol ⊢
  obtain ⟨body, e1⟩ := o
  dsimp only at hrow ob ol ⊢
  obtain ⟨a6, c6, rfl, hs6⟩ := hrow.sl ob
  have hk1 : k2 b1 = some (.cells noStep.vs.toArray 35 (0, 0)) := hle2 _ _ hk1
  unfold bodyR at hld
  dsimp only at hld
  repeat (first | refine cg_seq ?_ | refine cg_region ?_ | refine rg_nil ?_ | refine eg_then ?_ | refine qsp ?_)
  cases q4 : (e1 != 0)
  case true =>
    repeat (first | refine cg_seq ?_ | refine cg_region ?_ | refine cg_cond_true rfl ?_)
    refine rs rfl rfl (loc_det rfl (d_lit (cells := noStep.vs) rfl rfl rfl)) ?_
    repeat (first | refine qsp ?_)
    refine rw1 (vs := noStep.vs) rfl rfl rfl rfl rfl rfl rfl hk1 rfl (.inl hN1) ?_ ?_
    · simp [noStep, Step.vs, Value.oneCell']
    intro k9 ht9 hk9
    repeat (first | refine rg_nil ?_ | refine eg_then ?_ | refine qsp ?_ | refine cg_ret ?_ | refine eg_then_ret ?_)
    refine eg_returnC3 rfl rfl rfl rfl rfl (cells_step hk9) rfl (loadV_no ?_)
    rw [hld, if_pos (by simpa using q4)]
  have q4 : e1 = 0 := by simpa using q4
  rw [if_neg (by simp [q4])] at hld
  repeat (first | refine cg_seq ?_ | refine cg_region ?_ | refine eg_then ?_ | refine qsp ?_ | refine cg_cond_false rfl ?_ | refine cg_skip ?_)
  refine rv rfl rfl rfl (loc_call rfl rfl rfl rfl (fun k k' v hle h => h) (refRead_ct hs6 (by omega))) ?_
  rintro k3 hle3 v3 ⟨s, ok, rfl, hsok, hrd⟩
  have hk1 : k3 b1 = some (.cells noStep.vs.toArray 35 (0, 0)) := hle3 _ _ hk1
  repeat (first | refine qsp ?_)
  refine rb rfl rfl rfl rfl (a_alloc rfl) ?_; intro b7 k7 hb7 hN7 hle7 hk7
  have hne : b1 ≠ b7 := fun hc => by rw [← hc, hk1] at hb7; cases hb7
  refine rw1 (vs := s.vs) rfl rfl rfl rfl rfl rfl rfl hk7 rfl (.inl hN7) ?_ ?_
  · simp [Step.vs, Value.oneCell']
  intro k4 ht4 hk4
  have hk1 : k4 b1 = some (.cells noStep.vs.toArray 35 (0, 0)) := ht4 _ hle7 hb7 _ _ hk1
  have c4 := cells_step hk4
  cases ok
  · repeat (first | refine cg_seq ?_ | refine cg_region ?_ | refine rg_nil ?_ | refine eg_then ?_ | refine qsp ?_ | refine qso ?_ | refine cg_cond_true rfl ?_)
    rw [if_neg (by simp)] at hrd
    rw [hrd] at hld
    skip
    refine rs rfl rfl (loc_det rfl (d_lit (cells := noStep.vs) rfl rfl rfl)) ?_
    skip
    refine rw1 (vs := noStep.vs) rfl rfl rfl rfl rfl rfl rfl hk1 rfl (.inl hN1) ?_ ?_
    · simp [noStep, Step.vs, Value.oneCell']
    intro k9 ht9 hk9
    repeat (first | refine rg_nil ?_ | refine eg_then ?_ | refine qsp ?_ | refine cg_ret ?_ | refine eg_then_ret ?_)
    refine eg_returnC3 rfl rfl rfl rfl rfl (cells_step hk9) rfl (loadV_no ?_)
    exact hld
  rw [if_pos rfl] at hrd
  rw [hrd] at hld
  dsimp only at hld
  repeat (first | refine cg_seq ?_ | refine cg_region ?_ | refine rg_nil ?_ | refine eg_then ?_ | refine qsp ?_ | refine qsg ?_)
  refine rs rfl rfl (loc_call_is rfl rfl rfl rfl (refForm_ct s hsok)) ?_
  repeat (first | refine rg_nil ?_ | refine eg_then ?_ | refine qsp ?_)
  cases q5 : formS s
  · repeat (first | refine cg_seq ?_ | refine cg_region ?_ | refine cg_cond_true rfl ?_)
    rw [q5, if_neg (by simp)] at hld
    skip
    refine rs rfl rfl (loc_det rfl (d_lit (cells := noStep.vs) rfl rfl rfl)) ?_
    skip
    refine rw1 (vs := noStep.vs) rfl rfl rfl rfl rfl rfl rfl hk1 rfl (.inl hN1) ?_ ?_
    · simp [noStep, Step.vs, Value.oneCell']
    intro k9 ht9 hk9
    repeat (first | refine rg_nil ?_ | refine eg_then ?_ | refine qsp ?_ | refine cg_ret ?_ | refine eg_then_ret ?_)
    refine eg_returnC3 rfl rfl rfl rfl rfl (cells_step hk9) rfl (loadV_no ?_)
    exact hld
  · rw [q5, if_pos rfl] at hld
    repeat (first | refine cg_seq ?_ | refine cg_region ?_ | refine eg_then ?_ | refine qsp ?_ | refine qsg ?_ | refine cg_cond_false rfl ?_ | refine cg_skip ?_)
    refine rw1 (vs := s.vs) rfl rfl rfl rfl rfl rfl rfl hk1 rfl (.inl hN1) ?_ ?_
    · simp [Step.vs, Value.oneCell']
    intro k9 ht9 hk9
    repeat (first | refine rg_nil ?_ | refine eg_then ?_ | refine qsp ?_ | refine cg_ret ?_)
    refine eg_returnC3 rfl rfl rfl rfl rfl (cells_step hk9) rfl ?_
    unfold LoadV
    rw [hld]
    refine ⟨?_, hsok⟩
    unfold loadVal
    rw [show ((m + 4 + n : Nat) : Int) = (m : Int) + 4 + (n : Int) by omega]
end Go.Wm
namespace Go.Wm
open Go.RowKit Go.Proofs
attribute [local irreducible] RG CG EG WA Loc Det Alc CT Exit.then Exit.inBlock Code.wp bodyPost
def ReplV (bs : List Nat) (N : Nat) (k : PH) (v : Value) : Prop := ∃ x n, Repl bs noConf 0 x n ∧ DoV x n N k v
theorem ReplV.mono {bs : List Nat} : ∀ N k k' v, Le k k' → ReplV bs N k v → ReplV bs N k' v := fun N k k' v hle ⟨x, n, h1, h2⟩ => ⟨x, n, h1, DoV.mono _ _ _ _ hle h2⟩
theorem loadR_next {b : List Nat} {g : Int} (h : (loadR b g).2.2 = 0) : 0 ≤ g ∧ g < (loadR b g).2.1 ∧ (loadR b g).2.1 ≤ b.length := by
  unfold loadR at h ⊢
  split at h
  · rename_i h1; exact absurd h h1
  rename_i h1
  have hg := getR_in (Decidable.not_not.1 h1)
  rw [if_neg h1]
  split at h
  · simp at h
  rename_i h2
  rw [if_neg h2]
  split at h
  · simp at h
  rename_i h3
  rw [if_neg h3]
  unfold bodyR at h ⊢
  split at h
  · rename_i h4; exact absurd h h4
  rename_i h4
  rw [if_neg h4]
  cases hr : readS (openR ((b.drop (g.toNat + 4)).take (getR b g 4).1)).1 with
  | none => rw [hr] at h; simp at h
  | some s =>
    rw [hr] at h
    dsimp only at h ⊢
    split at h
    · rename_i h5
      rw [if_pos h5]
      refine ⟨hg.1, ?_, ?_⟩ <;> dsimp only <;> omega
    · simp at h
set_option maxHeartbeats 4000000 in
theorem replay_ctn {k : PH} {a : Option Addr} {c : Nat} {bs : List Nat} (h : Sl tU8 k a c bs) (hl : bs.length ≤ 500000) : CTN Tryz.prog 10 #[.slice a bs.length c] k (ReplV bs) := by
  refine ctn_of_body (l := [_]) Tryz.func10 rfl Tryz.ntmps10 (by simp) ReplV.mono fun F hF0 hFm => ?_
  repeat (first | refine cg_seq ?_ | refine cg_region ?_)
  refine rb rfl rfl rfl rfl (a_alloc rfl) ?_; intro b2 k2 hb2 hN2 hle2 hk2
  have hk2 : k2 b2 = some (.cells (noConf.cs none 0 none 0 none 0 none 0).toArray 29 (0, 0)) := hk2
  repeat (first | refine rg_nil ?_ | refine eg_then ?_ | refine qsp ?_ | refine cg_block ?_)
  refine cg_loop (fun (x : Conf × Int) e k' => ∃ a0 c0 a1 c1 a2 c2 a3 c3, 0 ≤ x.2 ∧ x.2 ≤ bs.length ∧ (∀ y m, Repl bs x.1 x.2 y m → Repl bs noConf 0 y m) ∧ x.1.upto x.2.toNat ∧ Le k k' ∧ k' b2 = some (.cells (x.1.cs a0 c0 a1 c1 a2 c2 a3 c3).toArray 29 (0, 0)) ∧ OwnL F.w0.heap.size k' x.1 a0 c0 a1 c1 a2 c2 a3 c3 ∧
      e = [(0, .is (.slice a bs.length c)), (2, .is (.pointer (some ⟨b2, 0, none⟩))), (3, .is (.int .i64 x.2))])
    (fun x => bs.length - x.2.toNat) (noConf, 0) ⟨none, 0, none, 0, none, 0, none, 0, Int.le_refl _, by simp only; omega, fun y m hr => hr, noConf_upto _, hle2, hk2, noOwn _ _, rfl⟩ ⟨rfl, rfl, rfl, trivial⟩ ?_
  clear hk2
  rintro ⟨y, g⟩ e k7 ⟨a0, c0, a1, c1, a2, c2, a3, c3, hg0, hgl, hrep, hyu, hk7, hkb, HO, rfl⟩
  dsimp only at hg0 hgl hrep hyu hkb HO ⊢
  have hyf : y.few := ⟨by have := hyu.1; omega, by have := hyu.2.1; omega, by have := hyu.2.2.1; omega, by have := hyu.2.2.2; omega⟩
  repeat (first | refine cg_seq ?_ | refine cg_region ?_ | refine qsp ?_ | refine cg_block ?_)
  refine rv rfl rfl rfl (loc_call rfl rfl rfl rfl (fun k k' v hle h => h) (load_ct (h.le hk7) (by unfold I64; omega) (by omega))) ?_
  rintro k8 hle8 v8 ⟨rfl, hsok⟩
  have hn1 : (loadR bs g).2.2 ≠ 0 → Repl bs y g y g := fun h => .stopL h
  have hn2 : (loadR bs g).2.2 = 0 → (doC y (loadR bs g).1).2 ≠ 0 → Repl bs y g y g := fun h h' => .stopD h h'
  have hn3 : (loadR bs g).2.2 = 0 → (doC y (loadR bs g).1).2 = 0 → ∀ x n, Repl bs (doC y (loadR bs g).1).1 (loadR bs g).2.1 x n → Repl bs y g x n := fun h h' x n h'' => .go h h' h''
  have hnx : (loadR bs g).2.2 = 0 → _ := loadR_next
  generalize loadR bs g = ld at hsok hn1 hn2 hn3 hnx ⊢
  obtain ⟨s, next, e8⟩ := ld
  dsimp only at hsok hn1 hn2 hn3 hnx ⊢
  unfold loadVal
  dsimp only
  have hkb := hle8 _ _ hkb
  have HO := HO.le hle8
  repeat (first | refine qsp ?_)
  refine rb rfl rfl rfl rfl (a_alloc rfl) ?_; intro b9 k9 hb9 hN9 hle9 hk9
  refine rw1 (vs := s.vs) rfl rfl rfl rfl rfl rfl rfl hk9 rfl (.inl hN9) ?_ ?_
  · exact Step.one k s.vs s ⟨rfl, hsok⟩
  intro k10 ht10 hk10
  have hle10 : Le k8 k10 := ht10 k8 hle9 hb9
  have cs := cells_at (vs := s.vs) hk10 rfl
  have hkb := hle10 _ _ hkb
  have HO := HO.le hle10
  have hle710 : Le k k10 := hk7.trans (hle8.trans hle10)
  have cy := cells_at (vs := y.cs a0 c0 a1 c1 a2 c2 a3 c3) hkb rfl
  have hb2k : k b2 = none := hb2
  repeat (first | refine cg_seq ?_ | refine cg_region ?_ | refine rg_nil ?_ | refine eg_then ?_ | refine qsp ?_)
  cases q1 : (e8 != 0)
  case true =>
    repeat (first | refine cg_seq ?_ | refine cg_region ?_ | refine qsp ?_ | refine qsg ?_ | refine cg_cond_true rfl ?_)
    refine rw1 (vs := y.cs a0 c0 a1 c1 a2 c2 a3 c3) rfl rfl rfl rfl rfl rfl rfl hkb rfl (.inl hN2) ?_ ?_
    · simp [Conf.cs, Value.oneCell']
    intro k12 ht12 hk12
    have HZ := HO.turn ht12 hkb (by decide) (by decide) (by decide) (by decide)
    have c12 := cells_at (vs := y.cs a0 c0 a1 c1 a2 c2 a3 c3) hk12 rfl
    repeat (first | refine rg_nil ?_ | refine eg_then ?_ | refine qsp ?_ | refine cg_ret ?_ | refine eg_then_ret ?_ | refine eg_in_ret ?_)
    exact eg_returnC2 rfl rfl rfl rfl c12 rfl ⟨y, g, hrep _ _ (hn1 (by simpa using q1)), doV_mk rfl HZ⟩
  have q1 : e8 = 0 := by simpa using q1
  obtain ⟨_, n1, n2⟩ := hnx q1
  have hyu' := do_upto (s := s) hyu
  obtain ⟨z, hz⟩ : ∃ z, doC y s = z := ⟨_, rfl⟩
  have hdo := do_ctn (s := s) HO.cf hyf hsok
  rw [hz] at hdo hyu' hn2 hn3
  repeat (first | refine cg_seq ?_ | refine cg_region ?_ | refine eg_then ?_ | refine qsg ?_ | refine cg_cond_false rfl ?_ | refine cg_skip ?_)
  refine rvn rfl rfl rfl rfl rfl rfl rfl hdo ?_
  rintro N11 k11 v11 hN11 hnew11 hle11 ⟨d0, f0, d1, f1, d2, f2, d3, f3, rfl, HZ⟩
  have hkb := hle11 _ _ hkb
  have HO := HO.le hle11
  repeat (first | refine qsp ?_)
  refine rb rfl rfl rfl rfl (a_alloc rfl) ?_; intro b13 k13 hb13 hN13 hle13 hk13
  refine rw1 (vs := z.1.cs d0 f0 d1 f1 d2 f2 d3 f3) rfl rfl rfl rfl rfl rfl rfl hk13 rfl (.inl hN13) ?_ ?_
  · simp [Conf.cs, Value.oneCell']
  intro k14 ht14 hk14
  have hle14 : Le k11 k14 := ht14 k11 hle13 hb13
  have hkb := hle14 _ _ hkb
  have HO := HO.le hle14
  have HZ := (HZ.N_le hN11).le hle14
  have hle714 : Le k k14 := hle710.trans (hle11.trans hle14)
  have cy := cells_at (vs := y.cs a0 c0 a1 c1 a2 c2 a3 c3) hkb rfl
  have cz := cells_at (vs := z.1.cs d0 f0 d1 f1 d2 f2 d3 f3) hk14 rfl
  repeat (first | refine cg_seq ?_ | refine cg_region ?_ | refine rg_nil ?_ | refine eg_then ?_ | refine qsp ?_)
  cases q2 : (z.2 != 0)
  · have q2' : z.2 = 0 := by simpa using q2
    repeat (first | refine cg_region ?_ | refine eg_then ?_ | refine qsp ?_ | refine qsg ?_ | refine cg_cond_false rfl ?_ | refine cg_skip ?_)
    refine rw1 (vs := z.1.cs d0 f0 d1 f1 d2 f2 d3 f3) rfl rfl rfl rfl rfl rfl rfl hkb rfl (.inl hN2) ?_ ?_
    · simp [Conf.cs, Value.oneCell']
    intro k15 ht15 hk15
    have HZ := HZ.turn ht15 hkb (by decide) (by decide) (by decide) (by decide)
    repeat (first | refine rg_nil ?_ | refine qsp ?_ | refine eg_in_normal ?_)
    refine eg_again (z.1, next) _ ⟨d0, f0, d1, f1, d2, f2, d3, f3, by simp only; omega, n2, fun x n hr => hrep _ _ (hn3 q1 q2' x n hr), ?_, ht15 k hle714 hb2k, hk15, HZ, rfl⟩ (by simp only; omega) ⟨rfl, rfl, rfl, trivial⟩
    have e1 : g.toNat + 1 ≤ next.toNat := by omega
    exact ⟨Nat.le_trans hyu'.1 e1, Nat.le_trans hyu'.2.1 e1, Nat.le_trans hyu'.2.2.1 e1, Nat.le_trans hyu'.2.2.2 e1⟩
  · have q2' : ¬ z.2 = 0 := by simpa using q2
    repeat (first | refine cg_seq ?_ | refine cg_region ?_ | refine qsp ?_ | refine qsg ?_ | refine cg_cond_true rfl ?_)
    refine rw1 (vs := y.cs a0 c0 a1 c1 a2 c2 a3 c3) rfl rfl rfl rfl rfl rfl rfl hkb rfl (.inl hN2) ?_ ?_
    · simp [Conf.cs, Value.oneCell']
    intro k15 ht15 hk15
    have HO := HO.turn ht15 hkb (by decide) (by decide) (by decide) (by decide)
    have c15 := cells_at (vs := y.cs a0 c0 a1 c1 a2 c2 a3 c3) hk15 rfl
    repeat (first | refine rg_nil ?_ | refine eg_then ?_ | refine qsp ?_ | refine cg_ret ?_ | refine eg_then_ret ?_ | refine eg_in_ret ?_)
    exact eg_returnC2 rfl rfl rfl rfl c15 rfl ⟨y, g, hrep _ _ (hn2 q1 q2'), doV_mk rfl HO⟩
end Go.Wm

/-
  Whether a step has form, the document's. Conditions: that what is handed in reads as data.
-/
import Derived.Test.YtgalkgidjpbiaaaGreatR9
set_option linter.all false
namespace Go.Wm
open Go.RowKit Go.Proofs
attribute [local irreducible] RG CG EG WA Loc Det Alc CT Exit.then Exit.inBlock Code.wp bodyPost
/-- The form's line: what is used, by its letter. -/
def patU (u : Bool × Bool × Bool × Bool × Bool) : ByteArray := ⟨#[if u.1 then 110 else 32, if u.2.1 then 116 else 32, if u.2.2.1 then 97 else 32, if u.2.2.2.1 then 98 else 32, if u.2.2.2.2 then 99 else 32]⟩
def useN (u : Bool × Bool × Bool × Bool × Bool) (i : Nat) : Bool := match i with
  | 0 => u.1
  | 1 => u.2.1
  | 2 => u.2.2.1
  | 3 => u.2.2.2.1
  | _ => u.2.2.2.2
theorem pat_size (u : Bool × Bool × Bool × Bool × Bool) : (patU u).size = 5 := rfl
theorem pat_at (u : Bool × Bool × Bool × Bool × Bool) (i : Nat) (h : i < (patU u).size) : decide (((patU u)[i].toNat : Int) = 32) = !useN u i := by
  rw [pat_size] at h
  obtain ⟨u0, u1, u2, u3, u4⟩ := u
  match i, h with
  | 0, _ => cases u0 <;> rfl
  | 1, _ => cases u1 <;> rfl
  | 2, _ => cases u2 <;> rfl
  | 3, _ => cases u3 <;> rfl
  | 4, _ => cases u4 <;> rfl
theorem pat_ne (u : Bool × Bool × Bool × Bool × Bool) (i : Nat) (h : i < (patU u).size) : (((patU u)[i].toNat : Int) != 32) = useN u i := by
  rw [bne, show (((patU u)[i].toNat : Int) == 32) = !useN u i from pat_at u i h, Bool.not_not]
set_option maxHeartbeats 4000000 in
theorem refForm_ct {k : PH} (s : Step) (hok : s.ok) : CT Tryz.prog 44 #[.agg s.vs.toArray] k (fun _ v => v = .bool (formS s)) := by
  refine ct_of_body (l := [_]) Tryz.func44 rfl Tryz.ntmps44 (by simp) (fun _ _ _ _ h => h) fun F hF0 hFm => ?_
  repeat (first | refine cg_seq ?_ | refine cg_region ?_)
  refine rb rfl rfl rfl rfl (a_box rfl rfl) ?_; intro b1 k1 hb1 hN1 hle1 hk1
  have c1 := cells_at (vs := s.vs) hk1 rfl
  obtain ⟨p0, p1, p2, p3, p4, p5⟩ := Step.parts c1
  obtain ⟨u, hu⟩ : ∃ u : Bool × Bool × Bool × Bool × Bool, (useK s.kind).getD (false, false, false, false, false) = u := ⟨_, rfl⟩
  repeat (first | refine cg_seq ?_ | refine cg_region ?_ | refine rg_nil ?_ | refine eg_then ?_ | refine qsp ?_ | refine qsl ?_ | refine qsf ?_ | refine cg_block ?_)
  apply meetR [(1, .is (.pointer (some ⟨b1, 0, none⟩))), (3, .is (.string (patU u))), (26, .is (.string s.name)), (28, .is (.string s.topic))] (useK s.kind = some u)
  · intro go
    skip
    cases q1 : (s.kind == 1)
    rotate_left
    · have hk : s.kind = 1 := by simpa using q1
      have hu' : useK s.kind = some (true, false, true, true, true) := by rw [hk]; rfl
      have hv : u = (true, false, true, true, true) := by rw [← hu, hu']; rfl
      repeat (first | refine cg_seq ?_ | refine cg_region ?_ | refine rg_nil ?_ | refine eg_then ?_ | refine qsp ?_ | refine qsl ?_ | refine qsf ?_ | refine cg_cond_true rfl ?_ | refine eg_in_normal ?_)
      refine go _ (by rw [hu', hv]) ?_
      exact ⟨rfl, by rw [hv]; rfl, rfl, rfl, trivial⟩
    repeat (first | refine cg_seq ?_ | refine cg_region ?_ | refine rg_nil ?_ | refine eg_then ?_ | refine qsp ?_ | refine cg_cond_false rfl ?_)
    cases q2 : (s.kind == 2)
    rotate_left
    · have hk : s.kind = 2 := by simpa using q2
      have hu' : useK s.kind = some (true, false, false, false, false) := by rw [hk]; rfl
      have hv : u = (true, false, false, false, false) := by rw [← hu, hu']; rfl
      repeat (first | refine cg_seq ?_ | refine cg_region ?_ | refine rg_nil ?_ | refine eg_then ?_ | refine qsp ?_ | refine qsl ?_ | refine qsf ?_ | refine cg_cond_true rfl ?_ | refine eg_in_normal ?_)
      refine go _ (by rw [hu', hv]) ?_
      exact ⟨rfl, by rw [hv]; rfl, rfl, rfl, trivial⟩
    repeat (first | refine cg_seq ?_ | refine cg_region ?_ | refine rg_nil ?_ | refine eg_then ?_ | refine qsp ?_ | refine cg_cond_false rfl ?_)
    cases q3 : (s.kind == 3)
    rotate_left
    · have hk : s.kind = 3 := by simpa using q3
      have hu' : useK s.kind = some (true, false, true, false, false) := by rw [hk]; rfl
      have hv : u = (true, false, true, false, false) := by rw [← hu, hu']; rfl
      repeat (first | refine cg_seq ?_ | refine cg_region ?_ | refine rg_nil ?_ | refine eg_then ?_ | refine qsp ?_ | refine qsl ?_ | refine qsf ?_ | refine cg_cond_true rfl ?_ | refine eg_in_normal ?_)
      refine go _ (by rw [hu', hv]) ?_
      exact ⟨rfl, by rw [hv]; rfl, rfl, rfl, trivial⟩
    repeat (first | refine cg_seq ?_ | refine cg_region ?_ | refine rg_nil ?_ | refine eg_then ?_ | refine qsp ?_ | refine cg_cond_false rfl ?_)
    cases q4 : (s.kind == 4)
    rotate_left
    · have hk : s.kind = 4 := by simpa using q4
      have hu' : useK s.kind = some (true, false, false, false, true) := by rw [hk]; rfl
      have hv : u = (true, false, false, false, true) := by rw [← hu, hu']; rfl
      repeat (first | refine cg_seq ?_ | refine cg_region ?_ | refine rg_nil ?_ | refine eg_then ?_ | refine qsp ?_ | refine qsl ?_ | refine qsf ?_ | refine cg_cond_true rfl ?_ | refine eg_in_normal ?_)
      refine go _ (by rw [hu', hv]) ?_
      exact ⟨rfl, by rw [hv]; rfl, rfl, rfl, trivial⟩
    repeat (first | refine cg_seq ?_ | refine cg_region ?_ | refine rg_nil ?_ | refine eg_then ?_ | refine qsp ?_ | refine cg_cond_false rfl ?_)
    cases q5 : (s.kind == 5)
    rotate_left
    · have hk : s.kind = 5 := by simpa using q5
      have hu' : useK s.kind = some (true, true, true, false, false) := by rw [hk]; rfl
      have hv : u = (true, true, true, false, false) := by rw [← hu, hu']; rfl
      repeat (first | refine cg_seq ?_ | refine cg_region ?_ | refine rg_nil ?_ | refine eg_then ?_ | refine qsp ?_ | refine qsl ?_ | refine qsf ?_ | refine cg_cond_true rfl ?_ | refine eg_in_normal ?_)
      refine go _ (by rw [hu', hv]) ?_
      exact ⟨rfl, by rw [hv]; rfl, rfl, rfl, trivial⟩
    repeat (first | refine cg_seq ?_ | refine cg_region ?_ | refine rg_nil ?_ | refine eg_then ?_ | refine qsp ?_ | refine cg_cond_false rfl ?_)
    cases q6 : (s.kind == 6)
    rotate_left
    · have hk : s.kind = 6 := by simpa using q6
      have hu' : useK s.kind = some (true, false, true, true, false) := by rw [hk]; rfl
      have hv : u = (true, false, true, true, false) := by rw [← hu, hu']; rfl
      repeat (first | refine cg_seq ?_ | refine cg_region ?_ | refine rg_nil ?_ | refine eg_then ?_ | refine qsp ?_ | refine qsl ?_ | refine qsf ?_ | refine cg_cond_true rfl ?_ | refine eg_in_normal ?_)
      refine go _ (by rw [hu', hv]) ?_
      exact ⟨rfl, by rw [hv]; rfl, rfl, rfl, trivial⟩
    repeat (first | refine cg_seq ?_ | refine cg_region ?_ | refine rg_nil ?_ | refine eg_then ?_ | refine qsp ?_ | refine cg_cond_false rfl ?_)
    cases q7 : (s.kind == 7)
    rotate_left
    · have hk : s.kind = 7 := by simpa using q7
      have hu' : useK s.kind = some (false, true, true, true, false) := by rw [hk]; rfl
      have hv : u = (false, true, true, true, false) := by rw [← hu, hu']; rfl
      repeat (first | refine cg_seq ?_ | refine cg_region ?_ | refine rg_nil ?_ | refine eg_then ?_ | refine qsp ?_ | refine qsl ?_ | refine qsf ?_ | refine cg_cond_true rfl ?_ | refine cg_skip ?_ | refine eg_in_normal ?_)
      refine go _ (by rw [hu', hv]) ?_
      exact ⟨rfl, by rw [hv]; rfl, rfl, rfl, trivial⟩
    repeat (first | refine cg_region ?_ | refine rg_nil ?_ | refine eg_then ?_ | refine qsp ?_ | refine cg_cond_false rfl ?_)
    cases q8 : (s.kind == 8)
    rotate_left
    · have hk : s.kind = 8 := by simpa using q8
      have hu' : useK s.kind = some (false, true, true, true, false) := by rw [hk]; rfl
      have hv : u = (false, true, true, true, false) := by rw [← hu, hu']; rfl
      repeat (first | refine cg_seq ?_ | refine cg_region ?_ | refine rg_nil ?_ | refine eg_then ?_ | refine qsp ?_ | refine qsl ?_ | refine qsf ?_ | refine cg_cond_true rfl ?_ | refine eg_in_normal ?_)
      refine go _ (by rw [hu', hv]) ?_
      exact ⟨rfl, by rw [hv]; rfl, rfl, rfl, trivial⟩
    repeat (first | refine cg_seq ?_ | refine cg_region ?_ | refine rg_nil ?_ | refine eg_then ?_ | refine qsp ?_ | refine cg_cond_false rfl ?_ | refine cg_ret ?_ | refine eg_then_ret ?_ | refine eg_in_ret ?_)
    refine eg_return rfl rfl ?_
    simp only [beq_eq_false_iff_ne] at q1 q2 q3 q4 q5 q6 q7 q8
    have : useK s.kind = none := by simp [useK, q1, q2, q3, q4, q5, q6, q7, q8]
    unfold formS
    rw [this]
  intro hus
  have hf : formS s = (textU u.1 s.name && (textU u.2.1 s.topic && (numU u.2.2.1 s.a && (numU u.2.2.2.1 s.b && numU u.2.2.2.2 s.c)))) := by
    unfold formS; rw [hus]
  have h1 := hok.2.1
  have h2 := hok.2.2.1
  have hts : ∀ (i : Nat) (t : ByteArray), [s.name, s.topic][i]? = some t → t.size ≤ maxLen := fun i t h => by
    match i, h with
    | 0, h => cases h; exact h1
    | 1, h => cases h; exact h2
  have htx : ∀ (i : Nat) (t : ByteArray), [s.name, s.topic][i]? = some t → textU (useN u i) t = false → formS s = false := fun i t h q => by
    match i, h with
    | 0, h => cases h; rw [hf, show textU u.1 s.name = false from q]; rfl
    | 1, h => cases h; rw [hf, show textU u.2.1 s.topic = false from q]; simp
  have hnx : ∀ (i : Nat) (n : Int), [s.a, s.b, s.c][i]? = some n → numU (useN u (2 + i)) n = false → formS s = false := fun i t h q => by
    match i, h with
    | 0, h => cases h; rw [hf, show numU u.2.2.1 s.a = false from q]; simp
    | 1, h => cases h; rw [hf, show numU u.2.2.2.1 s.b = false from q]; simp
    | 2, h => cases h; rw [hf, show numU u.2.2.2.2 s.c = false from q]; simp
  refine rb rfl rfl rfl rfl (a_slice (cells := [s.name, s.topic].map Value.string) rfl rfl rfl rfl (by kernel_rfl) rfl) ?_; intro b2 k2 hb2 hN2 hle2 hk2
  have c2 := cells_at (vs := [s.name, s.topic].map Value.string) hk2 rfl
  repeat (first | refine rg_nil ?_ | refine eg_then ?_ | refine qsp ?_ | refine qsn ?_ | refine cg_block ?_)
  refine cg_loop (fun (i : Nat) e k' => Le k2 k' ∧ (∀ (j : Nat) (t : ByteArray), [s.name, s.topic][j]? = some t → j < i → textU (useN u j) t = true) ∧ i ≤ 2 ∧ e = [(1, .is (.pointer (some ⟨b1, 0, none⟩))), (3, .is (.string (patU u))), (29, .is (.slice (some ⟨b2, 0, none⟩) 2 2)), (30, .is (.int .i64 2)), (31, .is (.int .i64 (i : Int)))])
    (fun i => 2 - i) 0 ⟨Le.refl _, fun j t _ hj => by omega, by omega, rfl⟩ ⟨rfl, rfl, rfl, rfl, rfl, trivial⟩ ?_
  rintro i e k9 ⟨hle9, hall, hi, rfl⟩
  repeat (first | refine cg_seq ?_ | refine cg_region ?_ | refine rg_nil ?_ | refine eg_then ?_ | refine qsp ?_)
  refine cg_cond rfl (fun h => ?_) (fun h => ?_)
  · have hlt : i < 2 := by have := of_decide_eq_true h; omega
    obtain ⟨t, ht⟩ : ∃ t : ByteArray, [s.name, s.topic][i]? = some t := ⟨_, List.getElem?_eq_getElem hlt⟩
    have hsz := hts i t ht
    have hpt : i < (patU u).size := by rw [pat_size]; omega
    have ct : Cells k9 b2 (0 + i * 1) [.string t] := by
      rw [Nat.mul_one]
      exact (c2.le hle9).one (by rw [List.getElem?_map, ht]; rfl)
    repeat (first | refine cg_seq ?_ | refine cg_region ?_ | refine rg_nil ?_ | refine eg_then ?_ | refine qsp ?_ | refine qsi ?_ | refine qsl ?_ | refine cg_skip ?_ | refine cg_block ?_)
    refine rs rfl rfl (loc_det rfl (d_idx_str (i := i) rfl rfl rfl hpt)) ?_
    refine rs rfl rfl (loc_det rfl (d_cmp rfl rfl rfl rfl)) ?_
    repeat (first | refine qsp ?_)
    rw [show (((patU u)[i].toNat : Int) == 32) = !useN u i from pat_at u i hpt]
    cases qu : useN u i
    · repeat (first | refine qsp ?_)
      cases qe : decide (t = (⟨#[]⟩ : ByteArray))
      · repeat (first | refine cg_seq ?_ | refine cg_region ?_ | refine rg_nil ?_ | refine eg_then ?_ | refine qsp ?_ | refine qso ?_ | refine cg_cond_true rfl ?_ | refine cg_ret ?_ | refine eg_then_ret ?_ | refine eg_in_ret ?_)
        exact eg_return rfl rfl (by rw [htx i t ht (by rw [qu]; simpa [textU] using qe)])
      · repeat (first | refine qsp ?_)
        refine rs rfl rfl (loc_det rfl (d_idx_str (i := i) rfl rfl rfl hpt)) ?_
        refine rs rfl rfl (loc_det rfl (d_cmp rfl rfl rfl rfl)) ?_
        repeat (first | refine qsp ?_)
        rw [show (((patU u)[i].toNat : Int) != 32) = useN u i from pat_ne u i hpt, qu]
        repeat (first | refine cg_region ?_ | refine rg_nil ?_ | refine eg_then ?_ | refine qsp ?_ | refine qsa ?_ | refine qso ?_ | refine cg_cond_false rfl ?_ | refine cg_skip ?_ | refine eg_in_normal ?_)
        refine eg_again (i + 1) _ ⟨hle9, fun j tj hj hji => ?_, hlt, rfl⟩ (by omega) ⟨rfl, rfl, rfl, rfl, rfl, trivial⟩
        by_cases e : j = i
        · subst e
          rw [ht] at hj; cases hj
          rw [qu]; simpa [textU] using qe
        · exact hall j tj hj (by omega)
    · repeat (first | refine qsp ?_ | refine qso ?_)
      refine rs rfl rfl (loc_det rfl (d_idx_str (i := i) rfl rfl rfl hpt)) ?_
      refine rs rfl rfl (loc_det rfl (d_cmp rfl rfl rfl rfl)) ?_
      repeat (first | refine qsp ?_)
      rw [show (((patU u)[i].toNat : Int) != 32) = useN u i from pat_ne u i hpt, qu]
      repeat (first | refine qsp ?_)
      refine rs rfl rfl (loc_call_is rfl rfl rfl rfl (refName_ct t hsz)) ?_
      repeat (first | refine rg_nil ?_ | refine eg_then ?_ | refine qsp ?_)
      cases qe : isName t
      · repeat (first | refine cg_seq ?_ | refine cg_region ?_ | refine rg_nil ?_ | refine eg_then ?_ | refine qsp ?_ | refine cg_cond_true rfl ?_ | refine cg_ret ?_ | refine eg_then_ret ?_ | refine eg_in_ret ?_)
        exact eg_return rfl rfl (by rw [htx i t ht (by rw [qu]; simpa [textU] using qe)])
      · repeat (first | refine cg_region ?_ | refine rg_nil ?_ | refine eg_then ?_ | refine qsp ?_ | refine qsa ?_ | refine cg_cond_false rfl ?_ | refine cg_skip ?_ | refine eg_in_normal ?_)
        refine eg_again (i + 1) _ ⟨hle9, fun j tj hj hji => ?_, hlt, rfl⟩ (by omega) ⟨rfl, rfl, rfl, rfl, rfl, trivial⟩
        by_cases e : j = i
        · subst e
          rw [ht] at hj; cases hj
          rw [qu]; simpa [textU] using qe
        · exact hall j tj hj (by omega)
  have hi2 : i = 2 := by have := of_decide_eq_false h; omega
  have g0 : textU u.1 s.name = true := hall 0 _ rfl (by omega)
  have g1 : textU u.2.1 s.topic = true := hall 1 _ rfl (by omega)
  clear hall
  obtain ⟨p0, p1, p2, p3, p4, p5⟩ := Step.parts (c1.le (hle2.trans hle9))
  repeat (first | refine cg_seq ?_ | refine cg_region ?_ | refine eg_then ?_ | refine qsl ?_ | refine qsf ?_ | refine cg_exit ?_ | refine eg_then_exit ?_ | refine eg_in_exit ?_)
  refine rb rfl rfl rfl rfl (a_slice (cells := [s.a, s.b, s.c].map (Value.int .i64)) rfl rfl rfl rfl (by kernel_rfl) rfl) ?_; intro b3 k3 hb3 hN3 hle3 hk3
  have c3 := cells_at (vs := [s.a, s.b, s.c].map (Value.int .i64)) hk3 rfl
  repeat (first | refine rg_nil ?_ | refine eg_then ?_ | refine qsp ?_ | refine qsn ?_ | refine cg_block ?_)
  refine cg_loop (fun (i : Nat) e k' => Le k3 k' ∧ (∀ (j : Nat) (n : Int), [s.a, s.b, s.c][j]? = some n → j < i → numU (useN u (2 + j)) n = true) ∧ i ≤ 3 ∧ e = [(1, .is (.pointer (some ⟨b1, 0, none⟩))), (3, .is (.string (patU u))), (62, .is (.slice (some ⟨b3, 0, none⟩) 3 3)), (63, .is (.int .i64 3)), (64, .is (.int .i64 (i : Int)))])
    (fun i => 3 - i) 0 ⟨Le.refl _, fun j t _ hj => by omega, by omega, rfl⟩ ⟨rfl, rfl, rfl, rfl, rfl, trivial⟩ ?_
  rintro i e k9 ⟨hle9, hall, hi, rfl⟩
  repeat (first | refine cg_seq ?_ | refine cg_region ?_ | refine rg_nil ?_ | refine eg_then ?_ | refine qsp ?_)
  refine cg_cond rfl (fun h => ?_) (fun h => ?_)
  · have hlt : i < 3 := by have := of_decide_eq_true h; omega
    obtain ⟨n, ht⟩ : ∃ n : Int, [s.a, s.b, s.c][i]? = some n := ⟨_, List.getElem?_eq_getElem hlt⟩
    have hpt : 2 + i < (patU u).size := by rw [pat_size]; omega
    have ct : Cells k9 b3 (0 + i * 1) [.int .i64 n] := by
      rw [Nat.mul_one]
      exact (c3.le hle9).one (by rw [List.getElem?_map, ht]; rfl)
    repeat (first | refine cg_seq ?_ | refine cg_region ?_ | refine rg_nil ?_ | refine eg_then ?_ | refine qsp ?_ | refine qsa ?_ | refine qsi ?_ | refine qsl ?_ | refine cg_skip ?_ | refine cg_block ?_)
    rw [show (2 : Int) + (i : Int) = ((2 + i : Nat) : Int) by omega]
    refine rs rfl rfl (loc_det rfl (d_idx_str (i := 2 + i) rfl rfl rfl hpt)) ?_
    refine rs rfl rfl (loc_det rfl (d_cmp rfl rfl rfl rfl)) ?_
    repeat (first | refine qsp ?_)
    rw [show (((patU u)[2 + i].toNat : Int) == 32) = !useN u (2 + i) from pat_at u (2 + i) hpt]
    have again : numU (useN u (2 + i)) n = true → ∀ (j : Nat) (m : Int), [s.a, s.b, s.c][j]? = some m → j < i + 1 → numU (useN u (2 + j)) m = true := fun hq j m hj hji => by
      by_cases e : j = i
      · subst e
        rw [ht] at hj; cases hj
        exact hq
      · exact hall j m hj (by omega)
    cases qu : useN u (2 + i)
    · repeat (first | refine qsp ?_)
      cases qe : (n != 0)
      rotate_left
      · repeat (first | refine cg_seq ?_ | refine cg_region ?_ | refine rg_nil ?_ | refine eg_then ?_ | refine qsp ?_ | refine qso ?_ | refine cg_cond_true rfl ?_ | refine cg_ret ?_ | refine eg_then_ret ?_ | refine eg_in_ret ?_)
        exact eg_return rfl rfl (by rw [hnx i n ht (by rw [qu]; simpa [numU] using qe)])
      · repeat (first | refine qsp ?_)
        refine rs rfl rfl (loc_call_is rfl rfl rfl rfl (refIn_ct n 0 1099511627776)) ?_
        repeat (first | refine rg_nil ?_ | refine eg_then ?_ | refine qsp ?_)
        have qe' : n = 0 := by simpa using qe
        have : inI n 0 1099511627776 = true := by rw [qe']; rfl
        rw [this]
        repeat (first | refine cg_region ?_ | refine rg_nil ?_ | refine eg_then ?_ | refine qsp ?_ | refine qsa ?_ | refine cg_cond_false rfl ?_ | refine cg_skip ?_ | refine eg_in_normal ?_)
        refine eg_again (i + 1) _ ⟨hle9, again (by rw [qu]; simpa [numU] using qe), hlt, rfl⟩ (by omega) ⟨rfl, rfl, rfl, rfl, rfl, trivial⟩
    · repeat (first | refine qsp ?_ | refine qso ?_)
      refine rs rfl rfl (loc_call_is rfl rfl rfl rfl (refIn_ct n 0 1099511627776)) ?_
      repeat (first | refine rg_nil ?_ | refine eg_then ?_ | refine qsp ?_)
      cases qe : inI n 0 1099511627776
      · repeat (first | refine cg_seq ?_ | refine cg_region ?_ | refine rg_nil ?_ | refine eg_then ?_ | refine qsp ?_ | refine cg_cond_true rfl ?_ | refine cg_ret ?_ | refine eg_then_ret ?_ | refine eg_in_ret ?_)
        refine eg_return rfl rfl ?_
        rw [hnx i n ht ?_]
        have : ¬ n = 0 := fun e => by rw [e] at qe; cases qe
        rw [qu]; simp [numU, qe, this]
      · repeat (first | refine cg_region ?_ | refine rg_nil ?_ | refine eg_then ?_ | refine qsp ?_ | refine qsa ?_ | refine cg_cond_false rfl ?_ | refine cg_skip ?_ | refine eg_in_normal ?_)
        refine eg_again (i + 1) _ ⟨hle9, again (by rw [qu]; simp [numU, qe]), hlt, rfl⟩ (by omega) ⟨rfl, rfl, rfl, rfl, rfl, trivial⟩
  have hi3 : i = 3 := by have := of_decide_eq_false h; omega
  have g2 : numU u.2.2.1 s.a = true := hall 0 _ rfl (by omega)
  have g3 : numU u.2.2.2.1 s.b = true := hall 1 _ rfl (by omega)
  have g4 : numU u.2.2.2.2 s.c = true := hall 2 _ rfl (by omega)
  repeat (first | refine cg_seq ?_ | refine cg_region ?_ | refine rg_nil ?_ | refine eg_then ?_ | refine qsp ?_ | refine cg_ret ?_ | refine cg_exit ?_ | refine eg_then_exit ?_ | refine eg_in_exit ?_)
  exact eg_return rfl rfl (by rw [hf, g0, g1, g2, g3, g4]; rfl)
end Go.Wm

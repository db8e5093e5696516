/-
  Producers, the document's: a batch written down. Conditions: that what is handed in reads as data.
-/
import Derived.Test.YtfejamdfhbamcaaG19
import Derived.Test.YtfejamdfhbamcaaG7
import Derived.Test.YtfejamdfhbamcaaG12
import Derived.Test.YtfejamdfhbamcaaGrw
set_option linter.all false
namespace Go.Wm
open Go.RowKit Go.Proofs
attribute [local irreducible] RG CG EG WA Loc Det Alc CT Exit.then Exit.inBlock Code.wp bodyPost
set_option maxHeartbeats 1000000 in
theorem refFull_ct {k : PH} {a : Option Addr} {c : Nat} {l : List ProdT} {b : Batch} {ab : Option Addr} {cb : Nat} (hl : Sl tProdT k a c l) (h1 : -1 ≤ b.pid) :
    CT Try.prog 77 #[.slice a l.length c, .agg (b.cs ab cb).toArray] k (fun _ v => v = .bool (fullP l b)) := by
  refine ct_of_body (l := [_, _]) Try.func77 rfl Try.ntmps77 (by simp) (fun _ _ _ _ h => h) fun F hF0 hFm => ?_
  have b1 := hl.cap; have b2 := hl.max; unfold maxLen at b2
  repeat (first | refine cg_seq ?_ | refine cg_region ?_)
  refine rb rfl rfl rfl rfl (a_box rfl rfl) ?_; intro b3 k3 hb3 hN3 hle3 hk3
  have hl3 := hl.le hle3
  obtain ⟨p0, p1, p2, p3, p4, p5, p6, p7, p8, p9⟩ := Batch.parts (cells_at (vs := b.cs ab cb) hk3 rfl)
  repeat (first | refine cg_seq ?_ | refine cg_region ?_ | refine rg_nil ?_ | refine eg_then ?_ | refine qsp ?_ | refine qsl ?_ | refine qsf ?_)
  cases q1 : (b.pid != -1)
  case false =>
    have q1 : b.pid = -1 := by simpa using q1
    repeat (first | refine rg_nil ?_ | refine eg_then ?_ | refine qsp ?_ | refine qso ?_ | refine cg_ret ?_)
    exact eg_return rfl rfl (by unfold fullP; rw [q1]; rfl)
  have q1 : b.pid ≠ -1 := by simpa using q1
  have hp0 : decide (0 ≤ b.pid) = true := by simp; omega
  repeat (first | refine qsp ?_ | refine qsl ?_ | refine qsf ?_)
  refine rs rfl rfl (loc_call_is rfl rfl rfl rfl (refFind_ct hl3 b.pid)) ?_
  rcases state_idx l b with ⟨hi1, hf, _⟩ | ⟨i, hi, hi1, hf, _⟩
  · rw [hi1]
    repeat (first | refine rg_nil ?_ | refine eg_then ?_ | refine qsp ?_ | refine qsn ?_ | refine cg_ret ?_)
    refine eg_return rfl rfl ?_
    unfold fullP; rw [hp0, hf]; simp; omega
  · rw [hi1]
    repeat (first | refine rg_nil ?_ | refine eg_then ?_ | refine qsp ?_ | refine qso ?_ | refine cg_ret ?_)
    rw [show decide (((i : Nat) : Int) < 0) = false by simp]
    skip
    refine eg_return rfl rfl ?_
    unfold fullP; rw [hp0, hf]; rfl
/-- A producer that is handed back: its batches read as data. -/
def WrV (p : ProdT) (k : PH) (v : Value) : Prop := ∃ a c, v = .agg (p.cs a c).toArray ∧ Sl tDid k a c p.did
theorem WrV.mono {p : ProdT} : ∀ k k' v, Le k k' → WrV p k v → WrV p k' v := fun k k' v hle ⟨a, c, h1, h2⟩ => ⟨a, c, h1, h2.le hle⟩
set_option maxHeartbeats 4000000 in
theorem written_ct {k : PH} {a : Option Addr} {c : Nat} {l : List ProdT} {b : Batch} {ab : Option Addr} {cb : Nat} (hl : Sl tProdT k a c l) (hps : ProdsP l) (hform : FormP b) (hnf : (stateR l b).2 = false) :
    CT Try.prog 79 #[.slice a l.length c, .agg (b.cs ab cb).toArray] k (WrV (withB (stateR l b).1 b)) := by
  refine ct_of_body (l := [_, _]) Try.func79 rfl Try.ntmps79 (by simp) WrV.mono fun F hF0 hFm => ?_
  have b1 := hl.cap; have b2 := hl.max; unfold maxLen at b2
  obtain ⟨s1, s2, s3, s4⟩ := state_ok hps hnf
  repeat (first | refine cg_seq ?_ | refine cg_region ?_)
  refine rb rfl rfl rfl rfl (a_box rfl rfl) ?_; intro b3 k3 hb3 hN3 hle3 hk3
  refine rb rfl rfl rfl rfl (a_alloc rfl) ?_; intro b4 k4 hb4 hN4 hle4 hk4
  have hl4 := hl.le (hle3.trans hle4)
  have hk34 := hle4 _ _ hk3
  obtain ⟨p0, p1, p2, p3, p4, p5, p6, p7, p8, p9⟩ := Batch.parts (cells_at (vs := b.cs ab cb) hk34 rfl)
  repeat (first | refine cg_seq ?_ | refine cg_region ?_ | refine rg_nil ?_ | refine eg_then ?_ | refine qsl ?_ | refine qsf ?_)
  refine rs rfl rfl (loc_det rfl (d_lit (cells := ProdT.cs ⟨b.pid, b.gen, []⟩ none 0) rfl rfl rfl)) ?_
  refine rb rfl rfl rfl rfl (a_alloc rfl) ?_; intro b5 k5 hb5 hN5 hle5 hk5
  refine rw1 (vs := ProdT.cs ⟨b.pid, b.gen, []⟩ none 0) rfl rfl rfl rfl rfl rfl rfl hk5 rfl (.inl hN5) ?_ ?_
  · simp [ProdT.cs, Value.oneCell']
  intro k6 ht6 hk6
  have hle6 : Le k4 k6 := ht6 k4 hle5 hb5
  have hl6 := hl4.le hle6
  have hk36 := hle6 _ _ hk34
  have hk46 := hle6 _ _ hk4
  have n54 : b5 ≠ b4 := fun e => by rw [e, hk4] at hb5; cases hb5
  have n53 : b5 ≠ b3 := fun e => by rw [e, hk34] at hb5; cases hb5
  have n43 : b4 ≠ b3 := fun e => by rw [e, hk3] at hb4; cases hb4
  clear p0 p1 p2 p3 p4 p5 p6 p7 p8 p9
  have cb6 := cells_at (vs := b.cs ab cb) hk36 rfl
  repeat (first | refine cg_seq ?_ | refine cg_region ?_ | refine rg_nil ?_ | refine eg_then ?_ | refine qsp ?_ | refine qsg ?_)
  refine rs rfl rfl (loc_call_is rfl rfl rfl rfl (fresh_ct hl6 hnf)) ?_
  have hst := state_idx l b
  have hwb : withB (stateR l b).1 b = ⟨b.pid, b.gen, if b.ctl = 0 then lastFive ((stateR l b).1.did ++ [didB b]) else (stateR l b).1.did⟩ := by
    unfold withB
    split
    · rw [← s1, ← s2]
    · rw [← s1, ← s2]
  rw [hwb]
  generalize hgd : (stateR l b).1.did = did0 at s3 s4 ⊢
  repeat (first | refine rg_nil ?_ | refine eg_then ?_ | refine qsp ?_)
  refine cg_join (fun e' k' => ∃ v, DRow F.w0.heap.size k' v did0 ∧ k' b5 = some (.cells #[.int .i64 b.pid, .int .i64 b.gen, v] 51 (0, 0)) ∧ k' b3 = some (.cells (b.cs ab cb).toArray 25 (0, 0)) ∧ k' b4 = some (.cells #[.int .i64 0, .int .i64 0, .slice none 0 0] 51 (0, 0)) ∧
    e' = [(3, .is (.pointer (some ⟨b3, 0, none⟩))), (4, .is (.pointer (some ⟨b4, 0, none⟩))), (5, .is (.pointer (some ⟨b5, 0, none⟩)))]) ?_ ?_
  · cases hemp : did0.isEmpty
    case true =>
      have hnil : did0 = [] := by simpa using hemp
      repeat (first | refine cg_cond_false rfl ?_ | refine cg_skip ?_)
      exact eg_join _ ⟨.slice none 0 0, by rw [hnil]; exact row_nil _ _ _ _, hk6, hk36, hk46, rfl⟩ ⟨rfl, rfl, rfl, trivial⟩
    have hne : did0 ≠ [] := by simpa using hemp
    have hpos : 0 < did0.length := List.length_pos_iff.2 hne
    obtain ⟨i, hi, hi1, hdi⟩ : ∃ i, ∃ h : i < l.length, idxF l (fun p => decide (p.pid = b.pid)) = (i : Int) ∧ l[i].did = did0 := by
      rcases hst with ⟨_, _, h2⟩ | ⟨i, hi, h1, _, h2⟩
      · rw [h2] at hgd; exact absurd hgd.symm hne
      · rw [h2] at hgd
        split at hgd
        · exact ⟨i, hi, h1, hgd⟩
        · exact absurd hgd.symm hne
    obtain ⟨bx, ox, cx, rfl, ⟨a0, c0, rfl, hsd, hpok⟩, hcx⟩ := hl6.el i l[i] (List.getElem?_eq_getElem hi)
    obtain ⟨p, hp⟩ : ∃ p, l[i] = p := ⟨_, rfl⟩
    rw [hp] at hcx hsd hdi
    have hapn := hsd.apn (f := Did.vs) (fun _ _ _ h => h.1)
    have hsd0 := hsd
    rw [hdi] at hapn
    obtain ⟨f0, f1, f2⟩ := ProdT.parts hcx
    obtain ⟨e0, e1, e2⟩ := ProdT.parts (cells_at (vs := ProdT.cs ⟨b.pid, b.gen, []⟩ none 0) hk6 rfl)
    obtain ⟨p0, p1, p2, p3, p4, p5, p6, p7, p8, p9⟩ := Batch.parts cb6
    dsimp only at e2
    have e2 : Cells k6 b5 (0 + 2) [.slice none 0 0] := e2
    have hdl : p.did.length = did0.length := by rw [hdi]
    repeat (first | refine cg_cond_true rfl ?_)
    refine cg_rows 12 [10] 0 (fun _ => 25) (fun _ => did0.length) (fun _ => did0.flatMap Did.vs) 101 3
      (by kernel_rfl) (by kernel_rfl) rfl (by kernel_rfl) rfl (by rintro (_ | q) j h <;> first | (cases h; rfl) | simp at h) rfl ?_
    dsimp only [List.take]
    repeat (first | refine qcp ?_ | refine qcl ?_ | refine qcf ?_)
    refine wc_s rfl (loc_call_is rfl rfl rfl rfl (refFind_ct hl6 b.pid)) rfl ?_
    rw [hi1]
    repeat (first | refine qci ?_ | refine qcl ?_ | refine qcf ?_)
    rw [hdi]
    refine wc_e 0 rfl (effs_app0 (j := did0.length) (news := did0.flatMap Did.vs) rfl rfl rfl rfl rfl (.inl ⟨_, rfl, hapn⟩) rfl rfl (did_flat _) (did_one _) (by kernel_rfl) rfl (by unfold maxLen; omega) (by omega)) ?_
    repeat (first | refine qcf ?_)
    refine wc_nil ?_
    intro k7 k8 vs hle7 hle78 hvs hfresh hrow
    have hrow : DRow F.w0.heap.size k8 (vs 25) did0 := hrow
    clear hvs hfresh
    dsimp only [List.drop, set, argEnv, nameE, nameP]
    generalize vs 25 = v at hrow ⊢
    have hle8 := hle7.trans hle78
    refine rw0 rfl rfl rfl rfl rfl rfl hrow.oneV rfl (hle8 _ _ hk6) (show 0 + 2 < 3 by decide) (.inl hN5) ?_; intro k9 ht9 hk9
    have hrow9 := hrow.turnY ht9 (hle8 _ _ hk6) (by decide)
    repeat (first | refine rg_nil ?_)
    exact eg_join _ ⟨v, hrow9, hk9, turn1_get ht9 (Ne.symm n53) (hle8 _ _ hk36), turn1_get ht9 (Ne.symm n54) (hle8 _ _ hk46), rfl⟩ ⟨rfl, rfl, rfl, trivial⟩
  rintro e' k9 ⟨v, hrow, hk5, hk3', hk4', rfl⟩
  have hdk0 : ∀ d ∈ did0, didOk d = true := dids_mem s3
  obtain ⟨p0, p1, p2, p3, p4, p5, p6, p7, p8, p9⟩ := Batch.parts (cells_at (vs := b.cs ab cb) hk3' rfl)
  repeat (first | refine cg_seq ?_ | refine cg_region ?_ | refine rg_nil ?_ | refine eg_then ?_ | refine qsp ?_ | refine qsl ?_ | refine qsf ?_)
  refine cg_join (fun e' k' => ∃ v did1, DRow F.w0.heap.size k' v did1 ∧ did1 = (if b.ctl = 0 then did0 ++ [didB b] else did0) ∧ k' b5 = some (.cells #[.int .i64 b.pid, .int .i64 b.gen, v] 51 (0, 0)) ∧ k' b4 = some (.cells #[.int .i64 0, .int .i64 0, .slice none 0 0] 51 (0, 0)) ∧
    e' = [(4, .is (.pointer (some ⟨b4, 0, none⟩))), (5, .is (.pointer (some ⟨b5, 0, none⟩)))]) ?_ ?_
  · cases q4 : (b.ctl == 0)
    case false =>
      repeat (first | refine cg_cond_false rfl ?_ | refine cg_skip ?_)
      exact eg_join _ ⟨v, did0, hrow, by rw [if_neg (by simpa using q4)], hk5, hk4', rfl⟩ ⟨rfl, rfl, trivial⟩
    have q4 : b.ctl = 0 := by simpa using q4
    clear p0 p1 p2 p3 p4 p5 p6 p7 p8 p9
    have o5 := hrow.owner hk5 (by decide)
    have o3 := hrow.owner hk3' (by decide)
    have o4 := hrow.owner hk4' (by decide)
    have dk5 : delV k9 v b5 = _ := (delV_of o5).trans hk5
    have dk3 : delV k9 v b3 = _ := (delV_of o3).trans hk3'
    have dk4 : delV k9 v b4 = _ := (delV_of o4).trans hk4'
    have e2 : Cells (delV k9 v) b5 (0 + 2) [v] := (cells_at (vs := [.int .i64 b.pid, .int .i64 b.gen, v]) dk5 rfl).one (i := 2) rfl
    obtain ⟨p0, p1, p2, p3, p4, p5, p6, p7, p8, p9⟩ := Batch.parts (cells_at (vs := b.cs ab cb) dk3 rfl)
    have cbd := cells_at (vs := b.cs ab cb) dk3 rfl
    repeat (first | refine cg_cond_true rfl ?_)
    refine cg_grow 12 10 v hrow (by kernel_rfl) (by kernel_rfl) rfl (by kernel_rfl) rfl ?_
    dsimp only [List.take]
    repeat (first | refine qcl ?_ | refine qcg ?_ | refine qcf ?_)
    refine wc_s rfl (loc_call_is rfl rfl rfl rfl (refLast_ct hform)) rfl ?_
    repeat (first | refine qcl ?_ | refine qcf ?_)
    refine wc_s rfl (loc_det rfl (d_lit (cells := (didB b).vs) rfl rfl rfl)) rfl ?_
    refine wc_v rfl (loc_alloc rfl (a_slice (cells := (didB b).vs) rfl rfl rfl rfl (by kernel_rfl) rfl)) rfl ?_
    refine wc_e 0 rfl (eff_grow (j := 1) (news := (didB b).vs) rfl rfl rfl rfl rfl (fun k1 u _ ⟨b, hu, hkb, _⟩ => ⟨b, 0, 1, hu, cells_at hkb rfl⟩) rfl (by simp [Did.vs, Value.oneCell']) (by kernel_rfl) rfl (by unfold maxLen; omega) (by omega)) ?_
    repeat (first | refine qcf ?_)
    refine wc_nil ?_
    intro k10 vs hle10 hvs
    have hrow10 : Row F.w0.heap.size k10 101 3 (vs 40) (did0.length + 1) (did0.flatMap Did.vs ++ (didB b).vs) := hvs 40 _ rfl
    have hrow10 : DRow F.w0.heap.size k10 (vs 40) (did0 ++ [didB b]) := by
      unfold DRow; rw [List.length_append, List.flatMap_append]; simpa using hrow10
    clear hvs
    dsimp only [List.drop, set, argEnv, nameE, nameP]
    generalize vs 40 = v' at hrow10 ⊢
    have hk10 := hle10 _ _ dk5
    refine rw0 rfl rfl rfl rfl rfl rfl hrow10.oneV rfl hk10 (show 0 + 2 < 3 by decide) (.inl hN5) ?_; intro k11 ht11 hk11
    have hrow11 := hrow10.turnY ht11 hk10 (by decide)
    repeat (first | refine rg_nil ?_)
    exact eg_join _ ⟨v', _, hrow11, by rw [if_pos q4], hk11, turn1_get ht11 (Ne.symm n54) (hle10 _ _ dk4), rfl⟩ ⟨rfl, rfl, trivial⟩
  clear p0 p1 p2 p3 p4 p5 p6 p7 p8 p9 hrow hk5 hk3' hk4'
  rintro e' k12 ⟨v, did1, hrow, hd1, hk5, hk4', rfl⟩
  have hdd : ∀ d ∈ did1, didOk d = true := fun d hd => by
    rw [hd1] at hd
    split at hd
    · rcases List.mem_append.1 hd with hd | hd
      · exact hdk0 d hd
      · simp at hd; subst hd; exact didB_ok hform
    · exact hdk0 d hd
  have hfinal : (if b.ctl = 0 then lastFive (did0 ++ [didB b]) else did0) = did1.drop (did1.length - 5) := by
    rw [hd1]
    split
    · rfl
    · rw [show did0.length - 5 = 0 by omega]; rfl
  have hl6' : did1.length ≤ 6 := by
    rw [hd1]
    split
    · rw [List.length_append]; simp; omega
    · omega
  have sl_of : ∀ {k : PH} {v : Value}, DRow F.w0.heap.size k v did1 → ∃ a c, v = .slice a did1.length c ∧ Sl tDid k a c did1 := fun h => Row.sl (T := tDid) (f := Did.vs) h fun d hd => ⟨rfl, did_okI (hdd d hd)⟩
  obtain ⟨a12, c12, rfl, hs12⟩ := sl_of hrow
  have g1 := hs12.cap; have g2 := hs12.max; unfold maxLen at g2
  rw [hfinal]
  have e2 : Cells k12 b5 (0 + 2) [.slice a12 did1.length c12] := (cells_at (vs := [.int .i64 b.pid, .int .i64 b.gen, .slice a12 did1.length c12]) hk5 rfl).one (i := 2) rfl
  repeat (first | refine cg_seq ?_ | refine cg_region ?_ | refine rg_nil ?_ | refine eg_then ?_ | refine qsp ?_ | refine qsn ?_ | refine qsl ?_ | refine qsf ?_)
  cases q5 : decide ((did1.length : Int) > 5)
  case false =>
    have q5 := of_decide_eq_false q5
    rw [show did1.length - 5 = 0 by omega, List.drop_zero]
    clear e2
    have c5 := cells_at (vs := ProdT.cs ⟨b.pid, b.gen, did1⟩ a12 c12) hk5 rfl
    repeat (first | refine cg_seq ?_ | refine cg_region ?_ | refine eg_then ?_ | refine qsg ?_ | refine cg_cond_false rfl ?_ | refine cg_skip ?_)
    refine rw1 (vs := ProdT.cs ⟨b.pid, b.gen, did1⟩ a12 c12) rfl rfl rfl rfl rfl rfl rfl hk4' rfl (.inl hN4) ?_ ?_
    · simp [ProdT.cs, Value.oneCell']
    intro k13 ht13 hk13
    have hrow13 := hrow.turnY ht13 hk4' (by decide)
    obtain ⟨_, _, e13, hs13⟩ := sl_of hrow13
    cases e13
    repeat (first | refine rg_nil ?_ | refine eg_then ?_ | refine cg_ret ?_)
    exact eg_returnC rfl rfl rfl (cells_at (vs := ProdT.cs ⟨b.pid, b.gen, did1⟩ a12 c12) hk13 rfl) rfl ⟨_, _, rfl, hs13⟩
  have q5 := of_decide_eq_true q5
  rw [show did1.length - 5 = 1 by omega]
  repeat (first | refine cg_region ?_ | refine qsl ?_ | refine qsf ?_ | refine cg_cond_true rfl ?_)
  refine rs rfl rfl (loc_det rfl (d_suf (i := 1) hs12 rfl rfl rfl (by omega))) ?_
  repeat (first | refine qsf ?_)
  refine rw0 rfl rfl rfl rfl rfl rfl rfl rfl hk5 (show 0 + 2 < 3 by decide) (.inl hN5) ?_; intro k13 ht13 hk13
  have hrow13 := hrow.turnY ht13 hk5 (by decide)
  have hk4'' := turn1_get ht13 (Ne.symm n54) hk4'
  have hdl : (did1.drop 1).length = did1.length - 1 := List.length_drop
  have hk13 : k13 b5 = some (.cells (ProdT.cs ⟨b.pid, b.gen, did1.drop 1⟩ (shiftA c12 1 3 a12) (c12 - 1)).toArray 51 (0, 0)) := by rw [hk13]; simp [ProdT.cs, hdl]
  have c13 := cells_at (vs := ProdT.cs ⟨b.pid, b.gen, did1.drop 1⟩ (shiftA c12 1 3 a12) (c12 - 1)) hk13 rfl
  clear e2
  have c13 := c13
  repeat (first | refine cg_seq ?_ | refine cg_region ?_ | refine rg_nil ?_ | refine eg_then ?_ | refine qsg ?_)
  refine rw1 (vs := ProdT.cs ⟨b.pid, b.gen, did1.drop 1⟩ (shiftA c12 1 3 a12) (c12 - 1)) rfl rfl rfl rfl rfl rfl rfl hk4'' rfl (.inl hN4) ?_ ?_
  · simp [ProdT.cs, Value.oneCell']
  intro k14 ht14 hk14
  have hrow14 := hrow13.turnY ht14 hk4'' (by decide)
  obtain ⟨_, _, e14, hs14⟩ := sl_of hrow14
  cases e14
  repeat (first | refine rg_nil ?_ | refine eg_then ?_ | refine cg_ret ?_)
  exact eg_returnC rfl rfl rfl (cells_at (vs := ProdT.cs ⟨b.pid, b.gen, did1.drop 1⟩ (shiftA c12 1 3 a12) (c12 - 1)) hk14 rfl) rfl ⟨_, _, rfl, hs14.drop (by omega)⟩
end Go.Wm

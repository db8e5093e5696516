/-
  Producers, the program's: a batch written down. Conditions: that what is handed in reads as data.
-/
import Derived.Test.YtfejamdfhbamcaaG6
import Derived.Test.YtfejamdfhbamcaaSto2
import Derived.Test.YtfejamdfhbamcaaCoB
set_option linter.all false
namespace Go.Wm
open Go.RowKit Go.Proofs
theorem pieces_flat {α : Type} {T : Ty α} {f : α → List Value} (hf : ∀ k cs x, T.rep k cs x → cs = f x) {k : PH} {css : List (List Value)} {xs : List α} (h : Pieces T k css xs) : css.flatten = xs.flatMap f := by
  have : css = xs.map f := by
    apply List.ext_getElem (by rw [h.1]; simp)
    intro i h1 h2
    simp only [List.length_map] at h2
    have := hf _ _ _ (h.2 i css[i] xs[i] (List.getElem?_eq_getElem h1) (List.getElem?_eq_getElem h2))
    rw [this]; simp
  rw [this, List.flatMap]
theorem did_okI {d : Did} (h : didOk d = true) : d.ok := by
  unfold didOk at h; simp only [Bool.and_eq_true, inI_iff] at h
  exact ⟨by unfold I64; omega, by unfold I64; omega, by unfold I64; omega⟩
attribute [local irreducible] RG CG EG WA Loc Det Alc CT Exit.then Exit.inBlock Code.wp bodyPost
set_option maxHeartbeats 400000 in
theorem cloneDid_ct {k : PH} {a : Option Addr} {c : Nat} {l : List Did} (hl : Sl tDid k a c l) (hb : l.length * 24 ≤ 140737488355328) :
    CTN Try.prog 75 #[.slice a l.length c] k (fun N k' v => ∃ css, Pieces tDid k css l ∧ Row N k' 101 3 v l.length css.flatten) := by
  refine ctn_of_body (l := [_]) Try.func75 rfl Try.ntmps75 (by simp) (fun N k k' v hle ⟨css, h1, h2⟩ => ⟨css, h1, h2.le hle⟩) fun F hF0 hFm => ?_
  have b1 := hl.cap; have b2 := hl.max; unfold maxLen at b2
  repeat (first | refine cg_seq ?_ | refine cg_region ?_ | refine rg_nil ?_ | refine eg_then ?_ | refine qsp ?_)
  refine rs rfl rfl (loc_det rfl (d_eqsl rfl rfl)) ?_
  cases a with
  | none =>
    have hc := hl.nil rfl
    have : l = [] := List.length_eq_zero_iff.1 (by omega)
    subst this
    repeat (first | refine cg_seq ?_ | refine cg_region ?_ | refine rg_nil ?_ | refine eg_then ?_ | refine qsp ?_ | refine cg_cond_true rfl ?_ | refine cg_ret ?_ | refine eg_then_ret ?_)
    exact eg_return rfl rfl ⟨[], Pieces.nil _ _, row_nil _ _ _ _⟩
  | some ad =>
    repeat (first | refine cg_seq ?_ | refine cg_region ?_ | refine rg_nil ?_ | refine eg_then ?_ | refine cg_cond_false rfl ?_ | refine cg_skip ?_)
    refine rb rfl rfl rfl rfl (a_empty rfl) ?_; intro b k2 hb2 hN2 hle2 hk2
    repeat (first | refine qsp ?_)
    refine raps2 (T := tDid) (sz := 3) (m := 0) (olds := []) rfl rfl rfl rfl rfl rfl rfl rfl (row_empty hN2 hk2) hl hle2 Did.one rfl rfl (by unfold maxLen; omega) (by omega) ?_
    intro v k3 css hp hrow ht
    repeat (first | refine rg_nil ?_ | refine eg_then ?_ | refine qsp ?_ | refine cg_ret ?_)
    refine eg_return rfl rfl ⟨css, hp, by simpa using hrow⟩

abbrev DRow (N : Nat) (k : PH) (v : Value) (l : List Did) : Prop := Row N k 101 3 v l.length (l.flatMap Did.vs)
theorem cloneDidF_ctn {k : PH} {a : Option Addr} {c : Nat} {l : List Did} (hl : Sl tDid k a c l) (hb : l.length ≤ 1000000) : CTN Try.prog 75 #[.slice a l.length c] k (fun N k' v => DRow N k' v l) := fun w k1 hle hs =>
  (cloneDid_ct hl (by omega) w k1 hle hs).mono fun e w' ⟨v, k', h1, h2, h3, h4, css, h5, h6⟩ => ⟨v, k', h1, h2, h3, h4, (by rw [pieces_flat (T := tDid) (f := Did.vs) (fun k cs x h => h.1) h5] at h6; exact h6 : DRow _ k' v l)⟩
/-- What Put hands back. -/
def PutV (q : List ProdT × Int) (N : Nat) (k : PH) (v : Value) : Prop := ∃ u, v = .tuple #[u, .int .i64 q.2] ∧ POwn N k u q.1
theorem PutV.mono {q : List ProdT × Int} : ∀ N k k' v, Le k k' → PutV q N k v → PutV q N k' v := fun N k k' v hle ⟨u, e, h⟩ => ⟨u, e, h.le hle⟩
set_option maxHeartbeats 4000000 in
theorem seqsPut_ctn {k : PH} {a : Option Addr} {c : Nat} {l : List ProdT} {b : Batch} {ab : Option Addr} {cb : Nat} (hl : Sl tProdT k a c l) (hr : Sl tRec k ab cb b.recs) (hok : b.ok) : CTN Try.prog 24 #[.slice a l.length c, .agg (b.cs ab cb).toArray] k (PutV (putR l b)) := by
  refine ctn_of_body (l := [_, _]) Try.func24 rfl Try.ntmps24 (by simp) PutV.mono fun F hF0 hFm => ?_
  have b1 := hl.cap; have b2 := hl.max; unfold maxLen at b2
  repeat (first | refine cg_seq ?_ | refine cg_region ?_)
  refine rb rfl rfl rfl rfl (a_box rfl rfl) ?_; intro b3 k3 hb3 hN3 hle3 hk3
  have hl3 := hl.le hle3
  have hr3 := hr.le hle3
  have cb3 := cells_at (vs := b.cs ab cb) hk3 rfl
  repeat (first | refine cg_seq ?_ | refine cg_region ?_ | refine rg_nil ?_ | refine eg_then ?_ | refine qsp ?_ | refine qsg ?_)
  refine rs rfl rfl (loc_call_is rfl rfl rfl rfl (look_ct hl3 hr3 hok)) ?_
  have hput : putR l b = if (lookR l b).2.2 ≠ 0 then ([], (lookR l b).2.2) else if fullP l b = true then ([], 2) else if (lookR l b).2.1 = true ∨ b.pid < 0 then (l, 0) else (putP l (withB (stateR l b).1 b), 0) := rfl
  have hlz : (lookR l b).2.2 = 0 → _ := look_zero
  have hfence : (lookR l b).2.2 = 0 → (lookR l b).2.1 = false → ¬ b.pid < 0 → (stateR l b).2 = false ∧ (b.ctl = 0 → b.seq = nextD (stateR l b).1.did) := fun h1 h2 h3 => by
    obtain ⟨c1, c2⟩ := look_zero h1
    unfold lookR at h1 h2
    rw [if_neg (by simp [c1]), if_neg (by simp [c2]; omega)] at h1 h2
    split at h1
    · simp at h1
    rename_i hs
    refine ⟨by simpa using hs, fun hct => ?_⟩
    rw [if_neg hs, if_neg (by simp [hct])] at h2
    rw [if_neg (by simp [hct])] at h1
    unfold stepLook at h1 h2
    split at h1
    · rename_i d hd; rw [hd] at h2; simp at h2
    · split at h1
      · assumption
      · simp at h1
  generalize lookR l b = lk at hput hlz hfence ⊢
  obtain ⟨base, there, er⟩ := lk
  dsimp only at hput hlz hfence
  unfold lookVal
  dsimp only
  repeat (first | refine cg_seq ?_ | refine cg_region ?_ | refine rg_nil ?_ | refine eg_then ?_ | refine qsp ?_ | refine cg_block ?_)
  cases q1 : (er != 0)
  case true =>
    repeat (first | refine cg_seq ?_ | refine cg_region ?_ | refine rg_nil ?_ | refine eg_then ?_ | refine qsp ?_ | refine cg_cond_true rfl ?_ | refine cg_ret ?_ | refine eg_then_ret ?_ | refine eg_in_ret ?_)
    refine eg_return2 rfl rfl rfl ?_
    rw [hput, if_pos (by simpa using q1)]
    exact ⟨_, rfl, own_nil _ _ _ _⟩
  have h1 : er = 0 := by simpa using q1
  subst h1
  obtain ⟨hc1, hc2⟩ := hlz rfl
  obtain ⟨hlen, hps⟩ := chk_zero.1 hc1
  have hform := chkB_form hc2
  have hpid : -1 ≤ b.pid ∧ b.pid ≤ 1099511627776 := by
    by_cases h : b.pid = -1
    · omega
    · have := hform.some h; omega
  rw [if_neg (by simp)] at hput
  have cb3 := cb3
  repeat (first | refine cg_seq ?_ | refine cg_region ?_ | refine qsp ?_ | refine qsg ?_ | refine cg_cond_false rfl ?_)
  refine rs rfl rfl (loc_call_is rfl rfl rfl rfl (full_ct hl3 (by omega) hps hpid.1 hpid.2)) ?_
  repeat (first | refine rg_nil ?_ | refine eg_then ?_ | refine qsp ?_)
  cases q2 : fullP l b
  case true =>
    repeat (first | refine cg_seq ?_ | refine cg_region ?_ | refine rg_nil ?_ | refine eg_then ?_ | refine qsp ?_ | refine cg_cond_true rfl ?_ | refine cg_ret ?_ | refine eg_then_ret ?_ | refine eg_in_ret ?_)
    refine eg_return2 rfl rfl rfl ?_
    rw [hput, if_pos q2]
    exact ⟨_, rfl, own_nil _ _ _ _⟩
  rw [if_neg (by simp [q2])] at hput
  repeat (first | refine cg_seq ?_ | refine cg_region ?_ | refine qsp ?_ | refine cg_cond_false rfl ?_)
  have there_ret : (there = true ∨ b.pid < 0) → putR l b = (l, 0) := fun h => by rw [hput, if_pos h]
  obtain ⟨p0, p1, p2, p3, p4, p5, p6, p7, p8, p9⟩ := Batch.parts cb3
  cases there
  case true =>
    repeat (first | refine cg_seq ?_ | refine cg_region ?_ | refine rg_nil ?_ | refine eg_then ?_ | refine qsp ?_ | refine qso ?_ | refine cg_cond_true rfl ?_)
    refine rvn rfl rfl rfl rfl rfl rfl rfl (cloneProdT_ct hl3 (by omega)) ?_
    rintro N6 k6 v6 hN6 hnew6 hle6 ⟨css, hpc, hrow⟩
    repeat (first | refine rg_nil ?_ | refine eg_then ?_ | refine qsp ?_ | refine cg_ret ?_ | refine eg_then_ret ?_ | refine eg_in_ret ?_)
    refine eg_return2 rfl rfl rfl ?_
    rw [there_ret (.inl rfl)]
    exact ⟨_, rfl, css, hpc.le hle6, hrow.N_le hN6⟩
  repeat (first | refine rg_nil ?_ | refine eg_then ?_ | refine qsp ?_ | refine qsl ?_ | refine qsf ?_)
  cases q3 : decide (b.pid < 0)
  case true =>
    have q3 := of_decide_eq_true q3
    repeat (first | refine cg_seq ?_ | refine cg_region ?_ | refine qsp ?_ | refine cg_cond_true rfl ?_)
    refine rvn rfl rfl rfl rfl rfl rfl rfl (cloneProdT_ct hl3 (by omega)) ?_
    rintro N6 k6 v6 hN6 hnew6 hle6 ⟨css, hpc, hrow⟩
    repeat (first | refine rg_nil ?_ | refine eg_then ?_ | refine qsp ?_ | refine cg_ret ?_ | refine eg_then_ret ?_ | refine eg_in_ret ?_)
    refine eg_return2 rfl rfl rfl ?_
    rw [there_ret (.inr q3)]
    exact ⟨_, rfl, css, hpc.le hle6, hrow.N_le hN6⟩
  have q3 := of_decide_eq_false q3
  rw [if_neg (by simp; omega)] at hput
  obtain ⟨hnf, hseq⟩ := hfence rfl rfl q3
  obtain ⟨s1, s2, s3, s4⟩ := state_ok hps hnf
  clear p0 p1 p2 p3 p4 p5 p6 p7 p8 p9 there_ret hfence hlz
  have cb3 := cb3
  repeat (first | refine cg_seq ?_ | refine cg_region ?_ | refine eg_then ?_ | refine qsp ?_ | refine qsg ?_ | refine cg_cond_false rfl ?_ | refine cg_skip ?_ | refine eg_in_normal ?_)
  refine rv rfl rfl rfl (loc_call rfl rfl rfl rfl StateV.mono (state_ct hl3 (by omega) hps (by omega) hpid.2)) ?_
  rintro k4 hle4 v4 ⟨a0, c0, rfl, hsd⟩
  have hwp : ∀ (hct : b.ctl = 0), prodOk (withB (stateR l b).1 b) = true := fun hct => with_prod hform hps (by omega) hnf (hseq hct)
  have hsp := state_prod hform hps (by omega) hnf
  generalize (stateR l b).2 = fenced at hnf ⊢
  generalize (stateR l b).1 = p at hput hseq s1 s2 s3 s4 hsd hwp hsp ⊢
  subst hnf
  repeat (first | refine qsp ?_)
  refine rb rfl rfl rfl rfl (a_alloc rfl) ?_; intro b9 k5 hb9 hN9 hle5 hk5
  refine rw1 (vs := p.cs a0 c0) rfl rfl rfl rfl rfl rfl rfl hk5 rfl (.inl hN9) ?_ ?_
  · simp [ProdT.cs, Value.oneCell']
  intro k6 ht6 hk6
  have hle6 : Le k4 k6 := ht6 k4 hle5 hb9
  have hle36 : Le k3 k6 := hle4.trans hle6
  have cb6 := cb3.le hle36
  have hsd6 := hsd.le hle6
  have hIp : I64 p.pid ∧ I64 p.gen := by
    have := prodOk_iff.1 hsp
    unfold I64; omega
  obtain ⟨p0, p1, p2, p3, p4, p5, p6, p7, p8, p9⟩ := Batch.parts cb6
  have hb9k : k4 b9 = none := hb9
  repeat (first | refine cg_seq ?_ | refine cg_region ?_ | refine rg_nil ?_ | refine eg_then ?_ | refine qsp ?_ | refine qsl ?_ | refine qsf ?_)
  cases q4 : (b.ctl == 0)
  · have hw : withB p b = p := by unfold withB; rw [if_neg (by simpa using q4)]
    have hkw : k6 b9 = some (.cells ((withB p b).cs a0 c0).toArray 51 (0, 0)) := by rw [hw]; exact hk6
    have hsw : Sl tDid k6 a0 c0 (withB p b).did := by rw [hw]; exact hsd6
    have hwok : (withB p b).ok := by rw [hw]; exact ⟨hIp.1, hIp.2, trivial⟩
    have hle3w := hle36
    generalize a0 = aw at hkw hsw ⊢
    generalize c0 = cw at hkw hsw ⊢
    have cp9 := cells_at (vs := (withB p b).cs aw cw) hkw rfl
    repeat (first | refine cg_seq ?_ | refine cg_region ?_ | refine eg_then ?_ | refine qsp ?_ | refine qsg ?_ | refine cg_cond_false rfl ?_ | refine cg_skip ?_)
    refine rvn rfl rfl rfl rfl rfl rfl rfl (put_ctn (p := withB p b) (hl3.le hle3w) (by omega) hps hsw hwok (by rw [(withB_pid p b).1]; omega) (by rw [(withB_pid p b).1]; omega)) ?_
    rintro N20 k20 v20 hN20 _ hle20 hown
    repeat (first | refine rg_nil ?_ | refine eg_then ?_ | refine qsp ?_ | refine cg_ret ?_)
    refine eg_return2 rfl rfl rfl ?_
    rw [hput]
    exact ⟨_, rfl, hown.N_le hN20⟩
  · have hct : b.ctl = 0 := by simpa using q4
    have hwok : (withB p b).ok := ⟨by rw [(withB_pid p b).1]; exact hIp.1, by rw [(withB_pid p b).2]; exact hIp.2, trivial⟩
    clear p0 p1 p2 p3 p4 p5 p6 p7 p8 p9
    obtain ⟨e0, e1, e2⟩ := ProdT.parts (cells_at (vs := p.cs a0 c0) hk6 rfl)
    have cb6 := cb6
    repeat (first | refine cg_seq ?_ | refine cg_cond_true rfl ?_)
    refine cg_rows 8 [2, 6] 1 (fun q => if q = 0 then 46 else 50) (fun q => if q = 0 then p.did.length else p.did.length + 1) (fun q => if q = 0 then p.did.flatMap Did.vs else p.did.flatMap Did.vs ++ (didB b).vs) 101 3
      (by kernel_rfl) (by kernel_rfl) rfl (by kernel_rfl) rfl (by rintro (_ | _ | q) j h <;> first | (cases h; rfl) | simp at h) rfl ?_
    dsimp only [List.take]
    repeat (first | refine qcl ?_ | refine qcf ?_)
    refine wc_e 0 rfl (effs_callR rfl rfl rfl rfl rfl rfl (cloneDidF_ctn hsd6 (by omega))) ?_
    repeat (first | refine qcg ?_)
    refine wc_s rfl (loc_call_is rfl rfl rfl rfl (did_ct hform)) rfl ?_
    refine wc_iv rfl (loci_newN xr_size rfl (Le.refl _) (a_slice (cells := (didB b).vs) rfl rfl rfl rfl (by kernel_rfl) rfl)) rfl ?_
    refine wc_e 1 rfl (effs_appS (j := 1) (news := (didB b).vs) rfl rfl rfl rfl (by decide) (.inr ⟨49, _, rfl, rfl, fun k1 u hle1 ⟨g, eu, hg, _⟩ => .inl ⟨g, 0, 1, eu, cells_at hg rfl⟩⟩) rfl rfl rfl (by simp [Did.vs, Value.oneCell']) (by kernel_rfl) rfl (by show p.did.length + 1 ≤ _; unfold maxLen; omega) (by show (p.did.length + 1) * _ ≤ _; omega)) ?_
    repeat (first | refine qcf ?_)
    refine wc_nil ?_
    intro k7 k8 vs hle7 hle78 hvs hfresh hrow
    have hrow : DRow F.w0.heap.size k8 (vs 50) (p.did ++ [didB b]) := by
      unfold DRow; rw [List.length_append, List.flatMap_append]; simpa using hrow
    have hdd : ∀ d ∈ p.did ++ [didB b], didOk d = true := fun d hd => by
      rcases List.mem_append.1 hd with hd | hd
      · exact dids_mem s3 d hd
      · simp at hd; subst hd; exact didB_ok hform
    have sl_of : ∀ {k : PH} {v : Value}, DRow F.w0.heap.size k v (p.did ++ [didB b]) → ∃ a c, v = .slice a (p.did ++ [didB b]).length c ∧ Sl tDid k a c (p.did ++ [didB b]) := fun h => Row.sl (T := tDid) (f := Did.vs) h fun d hd => ⟨rfl, did_okI (hdd d hd)⟩
    obtain ⟨a8, c8, ev, hs8⟩ := sl_of hrow
    clear hvs hfresh
    dsimp only [List.drop, set, argEnv, nameE, nameP]
    rw [ev] at hrow ⊢
    have hle68 : Le k6 k8 := hle7.trans hle78
    have hk8 := hle68 _ _ hk6
    have hle38 : Le k3 k8 := hle36.trans hle68
    have hb93 : k3 b9 = none := hle4.none hb9k
    refine rw0 rfl rfl rfl rfl rfl rfl rfl rfl hk8 (show 0 + 2 < 3 by decide) (.inl hN9) ?_; intro k9 ht9 hk9
    have hrow9 := hrow.turnY ht9 hk8 (by decide)
    obtain ⟨_, _, e9, hs9⟩ := sl_of hrow9
    cases e9
    have hle39 : Le k3 k9 := ht9 k3 hle38 hb93
    generalize hL : p.did ++ [didB b] = L at hs8 hs9 hrow hrow9 hk9 sl_of hdd ⊢
    have hLl : L.length = p.did.length + 1 := by rw [← hL]; simp
    have hk9 : k9 b9 = some (.cells (({ p with did := L } : ProdT).cs a8 c8).toArray 51 (0, 0)) := hk9
    obtain ⟨e0, e1, e2⟩ := ProdT.parts (cells_at (vs := ({ p with did := L } : ProdT).cs a8 c8) hk9 rfl)
    repeat (first | refine cg_region ?_ | refine rg_nil ?_ | refine eg_then ?_ | refine qsn ?_ | refine qsl ?_ | refine qsf ?_)
    dsimp only
    repeat (first | refine qss ?_)
    refine rs rfl rfl (loc_det rfl (d_max rfl rfl rfl)) ?_
    rw [show (if (0 : Int) < (L.length : Int) - 5 then (L.length : Int) - 5 else 0) = ((L.length - 5 : Nat) : Int) by split <;> omega]
    refine rs rfl rfl (loc_det rfl (d_suf hs9 rfl rfl rfl (by omega))) ?_
    repeat (first | refine qsf ?_)
    refine rw0 rfl rfl rfl rfl rfl rfl rfl rfl hk9 (show 0 + 2 < 3 by decide) (.inl hN9) ?_; intro k10 ht10 hk10
    have hrow10 := hrow9.turnY ht10 hk9 (by decide)
    obtain ⟨_, _, e10, hs10⟩ := sl_of hrow10
    cases e10
    have hle3w : Le k3 k10 := ht10 k3 hle39 hb93
    have hwb : withB p b = { p with did := L.drop (L.length - 5) } := by unfold withB lastFive; rw [if_pos hct, hL]
    have hkw : k10 b9 = some (.cells ((withB p b).cs (shiftA c8 (L.length - 5) 3 a8) (c8 - (L.length - 5))).toArray 51 (0, 0)) := by rw [hwb]; exact hk10
    have hsw : Sl tDid k10 (shiftA c8 (L.length - 5) 3 a8) (c8 - (L.length - 5)) (withB p b).did := by rw [hwb]; exact hs10.drop (by omega)
    generalize shiftA c8 (L.length - 5) 3 a8 = aw at hkw hsw ⊢
    generalize c8 - (L.length - 5) = cw at hkw hsw ⊢
    have cp9 := cells_at (vs := (withB p b).cs aw cw) hkw rfl
    repeat (first | refine cg_seq ?_ | refine cg_region ?_ | refine rg_nil ?_ | refine eg_then ?_ | refine qsp ?_ | refine qsg ?_)
    refine rvn rfl rfl rfl rfl rfl rfl rfl (put_ctn (p := withB p b) (hl3.le hle3w) (by omega) hps hsw hwok (by rw [(withB_pid p b).1]; omega) (by rw [(withB_pid p b).1]; omega)) ?_
    rintro N20 k20 v20 hN20 _ hle20 hown
    repeat (first | refine rg_nil ?_ | refine eg_then ?_ | refine qsp ?_ | refine cg_ret ?_)
    refine eg_return2 rfl rfl rfl ?_
    rw [hput]
    exact ⟨_, rfl, hown.N_le hN20⟩
end Go.Wm

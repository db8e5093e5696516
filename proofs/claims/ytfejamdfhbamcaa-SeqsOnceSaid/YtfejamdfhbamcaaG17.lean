/-
  Producers, the program's: all batches of a log written down. Conditions: that what is handed in reads as data.
-/
import Derived.Test.YtfejamdfhbamcaaG16
set_option linter.all false
namespace Go.Wm
open Go.RowKit Go.Proofs
theorem chkB_ne (b : Batch) : chkB b ≠ 111 := by unfold chkB; split <;> (try split) <;> omega
theorem ofR_succ {bs : List Batch} {i : Nat} (h : i < bs.length) : ofR (bs.take (i + 1)) = ofStep (ofR (bs.take i)) bs[i] := by
  unfold ofR; rw [List.take_succ_eq_append_getElem h, List.foldl_append]; rfl
theorem of_chk0 (bs : List Batch) : chkP (ofR bs) = 0 := of_chk fun b _ => chkB_ne b
theorem aboveD_at {l : List Did} {b : Batch} : aboveD l b = if h : 0 < l.length then decide (l[l.length - 1].last < b.seq) else true := by
  unfold aboveD
  rw [List.getLast?_eq_getElem?]
  split
  · rename_i hd
    rw [dif_neg (fun hc => by rw [List.getElem?_eq_getElem (by omega)] at hd; cases hd)]
  · rename_i d hd
    obtain ⟨h1, h2⟩ := List.getElem?_eq_some_iff.1 hd
    rw [dif_pos (by omega), h2]
attribute [local irreducible] RG CG EG WA Loc Det Alc CT Exit.then Exit.inBlock Code.wp bodyPost
set_option maxHeartbeats 4000000 in
theorem of_ctn {k : PH} {a : Option Addr} {c : Nat} {bs : List Batch} (hl : Sl tBatch k a c bs) : CTN Try.prog 28 #[.slice a bs.length c] k (fun N k' v => POwn N k' v (ofR bs)) := by
  refine ctn_of_body (l := [_]) Try.func28 rfl Try.ntmps28 (by simp) (fun N k k' v hle h => h.le hle) fun F hF0 hFm => ?_
  have b1 := hl.cap; have b2 := hl.max; unfold maxLen at b2
  repeat (first | refine cg_seq ?_ | refine cg_region ?_ | refine rg_nil ?_ | refine eg_then ?_ | refine qsp ?_ | refine qsn ?_ | refine cg_block ?_)
  refine cg_loop (fun (i : Nat) e k' => ∃ v, Le k k' ∧ POwn F.w0.heap.size k' v (ofR (bs.take i)) ∧ i ≤ bs.length ∧ e = [(3, .is v), (11, .is (.slice a bs.length c)), (12, .is (.int .i64 (bs.length : Int))), (13, .is (.int .i64 (i : Int)))])
    (fun i => bs.length - i) 0 ⟨_, Le.refl _, own_nil _ _ _ _, by omega, rfl⟩ ⟨rfl, rfl, rfl, rfl, trivial⟩ ?_
  rintro i e k1 ⟨v, hle1, hown, hi, rfl⟩
  repeat (first | refine cg_seq ?_ | refine cg_region ?_ | refine rg_nil ?_ | refine eg_then ?_ | refine qsp ?_)
  refine cg_cond rfl (fun h => ?_) (fun h => ?_)
  rotate_left
  · have hil : i = bs.length := by have := of_decide_eq_false h; omega
    subst hil
    rw [List.take_length] at hown
    repeat (first | refine cg_seq ?_ | refine cg_region ?_ | refine rg_nil ?_ | refine eg_then ?_ | refine qsp ?_ | refine cg_ret ?_ | refine cg_exit ?_ | refine eg_then_exit ?_ | refine eg_in_exit ?_)
    exact eg_return rfl rfl hown
  have hlt : i < bs.length := by have := of_decide_eq_true h; omega
  have hch := of_chk0 (bs.take i)
  have hsu := ofR_succ hlt
  obtain ⟨bx, ox, cx, rfl, ⟨a0, c0, rfl, hsr, hbok⟩, hcx⟩ := (hl.le hle1).el i bs[i] (List.getElem?_eq_getElem hlt)
  generalize ofR (bs.take i) = l at hown hch hsu
  obtain ⟨b, hb⟩ : ∃ b, bs[i] = b := ⟨_, rfl⟩
  rw [hb] at hsr hbok hcx hsu
  obtain ⟨hlen, hps⟩ := chk_zero.1 hch
  obtain ⟨al, cl, rfl, hsl⟩ := hown.sl
  have hcx := hcx
  repeat (first | refine cg_seq ?_ | refine cg_region ?_ | refine eg_then ?_ | refine qsi ?_ | refine qsg ?_ | refine cg_skip ?_ | refine cg_block ?_)
  refine rb rfl rfl rfl rfl (a_alloc rfl) ?_; intro b5 k2 hb5 hN5 hle2 hk2
  refine rw1 (vs := b.cs a0 c0) rfl rfl rfl rfl rfl rfl rfl hk2 rfl (.inl hN5) ?_ ?_
  · simp [Batch.cs, Value.oneCell']
  intro k3 ht3 hk3
  have hle3 : Le k1 k3 := ht3 k1 hle2 hb5
  have hown3 := hown.le hle3
  have hsl3 := hsl.le hle3
  have hsr3 := hsr.le hle3
  have cb3 := cells_at (vs := b.cs a0 c0) hk3 rfl
  repeat (first | refine cg_seq ?_ | refine cg_region ?_ | refine rg_nil ?_ | refine eg_then ?_ | refine qsp ?_ | refine qsg ?_)
  refine rvn rfl rfl rfl rfl rfl rfl rfl (seqsPut_ctn hsl3 hsr3 hbok) ?_
  rintro N6 k6 v6 hN6 hnew6 hle6 ⟨u6, rfl, hown6⟩
  have hseq : (putR l b).2 = 111 → chkB b = 0 ∧ 0 ≤ b.pid ∧ (stateR l b).2 = false ∧ b.ctl = 0 := fun h => look_seq (put_seq h) hch (chkB_ne b)
  have hst : ofStep l b = if (putR l b).2 = 0 then (putR l b).1 else if (putR l b).2 = 111 then (if aboveD (stateR l b).1.did b = true ∧ fullP l b = false then putP l { (stateR l b).1 with did := [didB b] } else l) else l := rfl
  generalize putR l b = pr at hown6 hseq hst ⊢
  obtain ⟨m, er⟩ := pr
  dsimp only at hown6 hseq hst ⊢
  repeat (first | refine cg_seq ?_ | refine cg_region ?_ | refine rg_nil ?_ | refine eg_then ?_ | refine qsp ?_ | refine cg_block ?_)
  have hown36 := hown3.le hle6
  have hsl6 := hsl3.le hle6
  have hk6 := hle6 _ _ hk3
  cases q1 : (er == 0)
  case true =>
    have q1 : er = 0 := by simpa using q1
    rw [if_pos q1] at hst
    repeat (first | refine cg_region ?_ | refine rg_nil ?_ | refine eg_then ?_ | refine qsp ?_ | refine qsa ?_ | refine cg_cond_true rfl ?_ | refine eg_in_normal ?_)
    exact eg_again (i + 1) _ ⟨u6, hle1.trans (hle3.trans hle6), by rw [hsu, hst]; exact hown6.N_le hN6, hlt, rfl⟩ (by omega) ⟨rfl, rfl, rfl, rfl, trivial⟩
  have q1 : er ≠ 0 := by simpa using q1
  rw [if_neg q1] at hst
  repeat (first | refine cg_seq ?_ | refine cg_region ?_ | refine rg_nil ?_ | refine eg_then ?_ | refine qsp ?_ | refine cg_cond_false rfl ?_)
  cases q2 : (er == 111)
  case false =>
    have q2 : er ≠ 111 := by simpa using q2
    rw [if_neg q2] at hst
    repeat (first | refine cg_region ?_ | refine rg_nil ?_ | refine eg_then ?_ | refine qsp ?_ | refine qsa ?_ | refine cg_cond_false rfl ?_ | refine cg_skip ?_ | refine eg_in_normal ?_)
    exact eg_again (i + 1) _ ⟨_, hle1.trans (hle3.trans hle6), by rw [hsu, hst]; exact hown36, hlt, rfl⟩ (by omega) ⟨rfl, rfl, rfl, rfl, trivial⟩
  have q2 : er = 111 := by simpa using q2
  rw [if_pos q2] at hst
  obtain ⟨hcb, hpid0, hnf, hctl⟩ := hseq q2
  have hform := chkB_form hcb
  have hpid := form_pid hform (by omega)
  obtain ⟨s1, s2, s3, s4⟩ := state_ok hps hnf
  have hsp := state_prod hform hps hpid0 hnf
  have cb6 := cells_at (vs := b.cs a0 c0) hk6 rfl
  repeat (first | refine cg_seq ?_ | refine cg_region ?_ | refine qsp ?_ | refine qsg ?_ | refine cg_cond_true rfl ?_)
  refine rv rfl rfl rfl (loc_call rfl rfl rfl rfl StateV.mono (state_ct hsl6 (by omega) hps (by omega) hpid.2)) ?_
  rintro k7 hle7 v7 ⟨ad, cd, rfl, hsd⟩
  generalize (stateR l b).2 = fenced at hnf ⊢
  generalize (stateR l b).1 = p at hst s1 s2 s3 s4 hsd hsp ⊢
  subst hnf
  have hk7 := hle7 _ _ hk6
  repeat (first | refine qsp ?_)
  refine rb rfl rfl rfl rfl (a_alloc rfl) ?_; intro b8 k8 hb8 hN8 hle8 hk8
  refine rw1 (vs := p.cs ad cd) rfl rfl rfl rfl rfl rfl rfl hk8 rfl (.inl hN8) ?_ ?_
  · simp [ProdT.cs, Value.oneCell']
  intro k9 ht9 hk9
  have hle9 : Le k7 k9 := ht9 k7 hle8 hb8
  have hsd9 := hsd.le hle9
  have hown9 := hown36.le (hle7.trans hle9)
  have hsl9 := hsl6.le (hle7.trans hle9)
  have hkb9 := hle9 _ _ hk7
  have hle19 : Le k1 k9 := hle3.trans (hle6.trans (hle7.trans hle9))
  have d1 := hsd.cap; have d2 := hsd.max; unfold maxLen at d2
  obtain ⟨e0, e1, e2⟩ := ProdT.parts (cells_at (vs := p.cs ad cd) hk9 rfl)
  obtain ⟨p0, p1, p2, p3, p4, p5, p6, p7, p8, p9⟩ := Batch.parts (cells_at (vs := b.cs a0 c0) hkb9 rfl)
  have cb9 := cells_at (vs := b.cs a0 c0) hkb9 rfl
  have hab := aboveD_at (l := p.did) (b := b)
  repeat (first | refine cg_seq ?_ | refine cg_region ?_ | refine rg_nil ?_ | refine eg_then ?_ | refine qsp ?_ | refine qsn ?_ | refine qsl ?_ | refine qsf ?_)
  refine cg_any (by kernel_rfl) rfl ?_
  repeat (first | refine qwp ?_)
  cases q3 : ((p.did.length : Int) == 0)
  case true =>
    have q3 : p.did.length = 0 := by simp at q3; rw [q3]; rfl
    rw [dif_neg (by omega)] at hab
    repeat (first | refine qwp ?_ | refine qwg ?_ | refine qwo ?_)
    refine ws rfl (loc_call_is rfl rfl rfl rfl (full_ct hsl9 (by omega) hps (by omega) hpid.2)) ?_
    repeat (first | refine qwp ?_ | (refine wn rfl ?_; refine eg_then ?_))
    cases q6 : fullP l b
    case true =>
      rw [q6, if_neg (fun hc => by cases hc.2)] at hst
      skip
      repeat (first | refine cg_region ?_ | refine rg_nil ?_ | refine eg_then ?_ | refine qsp ?_ | refine qsa ?_ | refine cg_cond_false rfl ?_ | refine cg_skip ?_ | refine eg_in_normal ?_)
      exact eg_again (i + 1) _ ⟨_, hle1.trans hle19, by rw [hsu, hst]; exact hown9, hlt, rfl⟩ (by omega) ⟨rfl, rfl, rfl, rfl, trivial⟩
    rw [if_pos ⟨hab, q6⟩] at hst
    skip
    clear e0 e1 e2 p0 p1 p2 p3 p4 p5 p6 p7 p8 p9
    have cb9 := cb9
    repeat (first | refine cg_seq ?_ | refine cg_region ?_ | refine qsg ?_ | refine cg_cond_true rfl ?_)
    refine rs rfl rfl (loc_call_is rfl rfl rfl rfl (did_ct hform)) ?_
    refine rb rfl rfl rfl rfl (a_slice (cells := (didB b).vs) rfl rfl rfl rfl (by kernel_rfl) rfl) ?_; intro b10 k10 hb10 hN10 hle10 hk10
    have hk9b := hle10 _ _ hk9
    repeat (first | refine qsf ?_)
    refine rw0 rfl rfl rfl rfl rfl rfl rfl rfl hk9b (show 0 + 2 < 3 by decide) (.inl hN8) ?_; intro k11 ht11 hk11
    have hne : b10 ≠ b8 := fun e => by rw [e, hk9] at hb10; cases hb10
    have hk10b := turn1_get ht11 hne hk10
    have hsn : Sl tDid k11 (some ⟨b10, 0, none⟩) 1 [didB b] := sl_rows (T := tDid) (xs := [didB b]) (css := [(didB b).vs]) hk10b rfl rfl (fun i cs x h1 h2 => by
      cases i with
      | zero => simp at h1 h2; rw [← h1, ← h2]; exact ⟨rfl, did_okI (didB_ok hform)⟩
      | succ i => simp at h1) (by simp [maxLen])
    have c11 : Cells k11 b8 0 (ProdT.cs { p with did := [didB b] } (some ⟨b10, 0, none⟩) 1) := cells_at (vs := ProdT.cs { p with did := [didB b] } (some ⟨b10, 0, none⟩) 1) hk11 rfl
    have hle711 : Le k7 k11 := ht11 k7 (hle9.trans hle10) hb8
    have hIp : I64 p.pid ∧ I64 p.gen := by
      have := prodOk_iff.1 hsp
      unfold I64; omega
    repeat (first | refine cg_region ?_ | refine rg_nil ?_ | refine eg_then ?_ | refine qsp ?_ | refine qsg ?_)
    refine rvn rfl rfl rfl rfl rfl rfl rfl (put_ctn (p := { p with did := [didB b] }) (hsl6.le (hle7.trans hle711)) (by omega) hps hsn ⟨hIp.1, hIp.2, trivial⟩ (by show -1 ≤ p.pid; omega) (by show p.pid ≤ _; omega)) ?_
    rintro N12 k12 v12 hN12 _ hle12 hown12
    repeat (first | refine cg_region ?_ | refine rg_nil ?_ | refine eg_then ?_ | refine qsp ?_ | refine qsa ?_ | refine eg_in_normal ?_)
    exact eg_again (i + 1) _ ⟨v12, hle1.trans (hle3.trans (hle6.trans (hle7.trans (hle711.trans hle12)))), by rw [hsu, hst]; exact hown12.N_le hN12, hlt, rfl⟩ (by omega) ⟨rfl, rfl, rfl, rfl, trivial⟩
  have q3 : 0 < p.did.length := by
    rcases Nat.eq_zero_or_pos p.did.length with h | h
    · rw [h] at q3; simp at q3
    · exact h
  rw [dif_pos q3] at hab
  obtain ⟨by', oy, cy, ead, ⟨rfl, hdI⟩, hcy⟩ := hsd9.el (p.did.length - 1) p.did[p.did.length - 1] (List.getElem?_eq_getElem (by omega))
  have hdk := dids_mem s3 p.did[p.did.length - 1] (List.getElem_mem (by omega))
  obtain ⟨d, hd⟩ : ∃ d, p.did[p.did.length - 1] = d := ⟨_, rfl⟩
  rw [hd] at hcy hdI hab
  subst ead
  obtain ⟨f0, f1, f2⟩ := Did.parts hcy
  repeat (first | refine qwp ?_ | refine qws ?_ | refine qwl ?_ | refine qwf ?_)
  rw [show (p.did.length : Int) - 1 = ((p.did.length - 1 : Nat) : Int) by omega]
  repeat (first | refine qwp ?_ | refine qwi ?_ | refine qwl ?_ | refine qwf ?_)
  cases q5 : decide (d.last < b.seq)
  case false =>
    rw [q5] at hab
    rw [hab, if_neg (fun hc => by cases hc.1)] at hst
    repeat (first | refine qwp ?_ | refine qwo ?_ | (refine wn rfl ?_; refine eg_then ?_))
    repeat (first | refine cg_region ?_ | refine rg_nil ?_ | refine eg_then ?_ | refine qsp ?_ | refine qsa ?_ | refine cg_cond_false rfl ?_ | refine cg_skip ?_ | refine eg_in_normal ?_)
    exact eg_again (i + 1) _ ⟨_, hle1.trans hle19, by rw [hsu, hst]; exact hown9, hlt, rfl⟩ (by omega) ⟨rfl, rfl, rfl, rfl, trivial⟩
  rw [q5] at hab
  clear f0 f1 f2
  repeat (first | refine qwp ?_ | refine qwg ?_)
  refine ws rfl (loc_call_is rfl rfl rfl rfl (full_ct hsl9 (by omega) hps (by omega) hpid.2)) ?_
  repeat (first | refine qwp ?_ | (refine wn rfl ?_; refine eg_then ?_))
  cases q6 : fullP l b
  case true =>
    rw [q6, if_neg (fun hc => by cases hc.2)] at hst
    skip
    repeat (first | refine cg_region ?_ | refine rg_nil ?_ | refine eg_then ?_ | refine qsp ?_ | refine qsa ?_ | refine cg_cond_false rfl ?_ | refine cg_skip ?_ | refine eg_in_normal ?_)
    exact eg_again (i + 1) _ ⟨_, hle1.trans hle19, by rw [hsu, hst]; exact hown9, hlt, rfl⟩ (by omega) ⟨rfl, rfl, rfl, rfl, trivial⟩
  rw [if_pos ⟨hab, q6⟩] at hst
  skip
  clear e0 e1 e2 p0 p1 p2 p3 p4 p5 p6 p7 p8 p9
  have cb9 := cb9
  repeat (first | refine cg_seq ?_ | refine cg_region ?_ | refine qsg ?_ | refine cg_cond_true rfl ?_)
  refine rs rfl rfl (loc_call_is rfl rfl rfl rfl (did_ct hform)) ?_
  refine rb rfl rfl rfl rfl (a_slice (cells := (didB b).vs) rfl rfl rfl rfl (by kernel_rfl) rfl) ?_; intro b10 k10 hb10 hN10 hle10 hk10
  have hk9b := hle10 _ _ hk9
  repeat (first | refine qsf ?_)
  refine rw0 rfl rfl rfl rfl rfl rfl rfl rfl hk9b (show 0 + 2 < 3 by decide) (.inl hN8) ?_; intro k11 ht11 hk11
  have hne : b10 ≠ b8 := fun e => by rw [e, hk9] at hb10; cases hb10
  have hk10b := turn1_get ht11 hne hk10
  have hsn : Sl tDid k11 (some ⟨b10, 0, none⟩) 1 [didB b] := sl_rows (T := tDid) (xs := [didB b]) (css := [(didB b).vs]) hk10b rfl rfl (fun i cs x h1 h2 => by
    cases i with
    | zero => simp at h1 h2; rw [← h1, ← h2]; exact ⟨rfl, did_okI (didB_ok hform)⟩
    | succ i => simp at h1) (by simp [maxLen])
  have c11 : Cells k11 b8 0 (ProdT.cs { p with did := [didB b] } (some ⟨b10, 0, none⟩) 1) := cells_at (vs := ProdT.cs { p with did := [didB b] } (some ⟨b10, 0, none⟩) 1) hk11 rfl
  have hle711 : Le k7 k11 := ht11 k7 (hle9.trans hle10) hb8
  have hIp : I64 p.pid ∧ I64 p.gen := by
    have := prodOk_iff.1 hsp
    unfold I64; omega
  repeat (first | refine cg_region ?_ | refine rg_nil ?_ | refine eg_then ?_ | refine qsp ?_ | refine qsg ?_)
  refine rvn rfl rfl rfl rfl rfl rfl rfl (put_ctn (p := { p with did := [didB b] }) (hsl6.le (hle7.trans hle711)) (by omega) hps hsn ⟨hIp.1, hIp.2, trivial⟩ (by show -1 ≤ p.pid; omega) (by show p.pid ≤ _; omega)) ?_
  rintro N12 k12 v12 hN12 _ hle12 hown12
  repeat (first | refine cg_region ?_ | refine rg_nil ?_ | refine eg_then ?_ | refine qsp ?_ | refine qsa ?_ | refine eg_in_normal ?_)
  exact eg_again (i + 1) _ ⟨v12, hle1.trans (hle3.trans (hle6.trans (hle7.trans (hle711.trans hle12)))), by rw [hsu, hst]; exact hown12.N_le hN12, hlt, rfl⟩ (by omega) ⟨rfl, rfl, rfl, rfl, trivial⟩
end Go.Wm

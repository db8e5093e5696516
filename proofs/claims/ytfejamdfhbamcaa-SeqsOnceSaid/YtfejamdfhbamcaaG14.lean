/-
  Producers, the program's: saved as bytes. Conditions: that what is handed in reads as data.
-/
import Derived.Test.YtfejamdfhbamcaaM4
import Derived.Test.YtfejamdfhbamcaaO8
import Derived.Test.YtfejamdfhbamcaaG1
import Derived.Test.YtfejamdfhbamcaaArr3
set_option linter.all false
namespace Go.Wm
open Go.RowKit Go.Proofs
theorem did_vars (d : Did) : didL d = varsL [d.seq, d.last, d.base] := by simp [didL, varsL]
theorem head_vars (p : ProdT) : prodHead p = varsL [p.pid, p.gen, (p.did.length : Int)] := by simp [prodHead, varsL]
theorem take3_len {a b c : Int} (ha : I64 a) (hb : I64 b) (hc : I64 c) (j : Nat) : (varsL ([a, b, c].take j)).length ≤ 30 := by
  have h := vars_len ([a, b, c].take j) (fun n hn => by
    have := List.mem_of_mem_take hn
    simp at this
    rcases this with rfl | rfl | rfl <;> assumption)
  have : ([a, b, c].take j).length ≤ 3 := by rw [List.length_take]; simp; omega
  omega
theorem take3_succ {a b c t : Int} {j : Nat} (h : [a, b, c][j]? = some t) : varsL ([a, b, c].take (j + 1)) = varsL ([a, b, c].take j) ++ varL (zigN t) := by
  obtain ⟨h1, h2⟩ := List.getElem?_eq_some_iff.1 h
  rw [List.take_succ_eq_append_getElem h1, h2, vars_snoc]
theorem three_at {a b c : Int} (ha : I64 a) (hb : I64 b) (hc : I64 c) {j : Nat} (h : j < 3) : ∃ t, [a, b, c][j]? = some t ∧ I64 t ∧ (#[Value.int .i64 a, .int .i64 b, .int .i64 c] : Array Value)[j]? = some (.int .i64 t) := by
  match j, h with
  | 0, _ => exact ⟨a, rfl, ha, rfl⟩
  | 1, _ => exact ⟨b, rfl, hb, rfl⟩
  | 2, _ => exact ⟨c, rfl, hc, rfl⟩
theorem did_len {d : Did} (h : didOk d = true) : (didL d).length ≤ 30 := by
  unfold didOk at h; simp only [Bool.and_eq_true, inI_iff] at h
  rw [did_vars]
  have := take3_len (a := d.seq) (b := d.last) (c := d.base) (by unfold I64; omega) (by unfold I64; omega) (by unfold I64; omega) 3
  simpa using this
theorem dids_len : ∀ {l : List Did}, (∀ d ∈ l, didOk d = true) → (l.flatMap didL).length ≤ 30 * l.length
  | [], _ => by simp
  | d :: l, h => by
    have h1 := did_len (h d (by simp))
    have h2 := dids_len (l := l) fun x hx => h x (by simp [hx])
    rw [List.flatMap_cons, List.length_append, List.length_cons]; omega
theorem prod_len {p : ProdT} (h : prodOk p = true) : (prodL p).length ≤ 180 := by
  obtain ⟨h1, h2, h3, h4⟩ := prodOk_iff.1 h
  have e1 := dids_len (dids_mem h4)
  have e2 := take3_len (a := p.pid) (b := p.gen) (c := (p.did.length : Int)) (by unfold I64; omega) (by unfold I64; omega) (by unfold I64; omega) 3
  unfold prodL; rw [List.length_append, head_vars]
  have e2 : (varsL [p.pid, p.gen, (p.did.length : Int)]).length ≤ 30 := by simpa using e2
  omega
theorem prods_len : ∀ {l : List ProdT}, (∀ p ∈ l, prodOk p = true) → (l.flatMap prodL).length ≤ 180 * l.length
  | [], _ => by simp
  | d :: l, h => by
    have h1 := prod_len (h d (by simp))
    have h2 := prods_len (l := l) fun x hx => h x (by simp [hx])
    rw [List.flatMap_cons, List.length_append, List.length_cons]; omega
theorem didL_bytes (d : Did) : Bytes (didL d) := by rw [did_vars]; exact vars_bytes _
theorem dids_bytes (l : List Did) : Bytes (l.flatMap didL) := fun x hx => by
  obtain ⟨d, _, hd⟩ := List.mem_flatMap.1 hx
  exact didL_bytes d x hd
theorem prodL_bytes (p : ProdT) : Bytes (prodL p) := by
  unfold prodL; rw [head_vars]; exact (vars_bytes _).append (dids_bytes _)
theorem prods_bytes (l : List ProdT) : Bytes (l.flatMap prodL) := fun x hx => by
  obtain ⟨d, _, hd⟩ := List.mem_flatMap.1 hx
  exact prodL_bytes d x hd
theorem flatS {α β : Type} (f : α → List β) {l : List α} {i : Nat} (h : i < l.length) : (l.take (i + 1)).flatMap f = (l.take i).flatMap f ++ f l[i] := by
  rw [List.take_succ_eq_append_getElem h, List.flatMap_append]; simp
attribute [local irreducible] RG CG EG WA Loc Det Alc CT Exit.then Exit.inBlock Code.wp bodyPost
theorem three_ct {k : PH} {d : Did} : CT Try.prog 82 #[.agg d.vs.toArray] k (fun _ v => v = .agg #[.int .i64 d.seq, .int .i64 d.last, .int .i64 d.base]) := by
  refine ct_of_body (l := [_]) Try.func82 rfl Try.ntmps82 (by simp) (fun _ _ _ _ h => h) fun F hF0 hFm => ?_
  repeat (first | refine cg_seq ?_ | refine cg_region ?_)
  refine rb rfl rfl rfl rfl (a_box rfl rfl) ?_; intro b1 k1 hb1 hN1 hle1 hk1
  refine rb rfl rfl rfl rfl (a_alloc rfl) ?_; intro b2 k2 hb2 hN2 hle2 hk2
  obtain ⟨f0, f1, f2⟩ := Did.parts (cells_at (vs := d.vs) (hle2 _ _ hk1) rfl)
  repeat (first | refine cg_seq ?_ | refine cg_region ?_ | refine rg_nil ?_ | refine eg_then ?_ | refine qsl ?_ | refine qsf ?_)
  refine rs rfl rfl (loc_det rfl (d_arr3V (a := .int .i64 d.seq) (b := .int .i64 d.last) (c := .int .i64 d.base) rfl rfl rfl rfl rfl rfl rfl)) ?_
  refine rw1 (vs := [.int .i64 d.seq, .int .i64 d.last, .int .i64 d.base]) rfl rfl rfl rfl rfl rfl rfl hk2 rfl (.inl hN2) ?_ ?_
  · simp [Value.oneCell']
  intro k3 ht3 hk3
  have c3 := cells_at (vs := [.int .i64 d.seq, .int .i64 d.last, .int .i64 d.base]) hk3 rfl
  repeat (first | refine rg_nil ?_ | refine eg_then ?_ | refine cg_ret ?_)
  exact eg_returnC rfl rfl rfl c3 rfl rfl
/-- What Save hands back. -/
def SavePV (q : List Nat × Int) (N : Nat) (k : PH) (v : Value) : Prop := ∃ u, v = .tuple #[u, .int .i64 q.2] ∧ BRow N k u q.1
theorem SavePV.mono {q : List Nat × Int} : ∀ N k k' v, Le k k' → SavePV q N k v → SavePV q N k' v := fun N k k' v hle ⟨u, e, h⟩ => ⟨u, e, h.le hle⟩
set_option maxHeartbeats 4000000 in
theorem savePd_ctn {k : PH} {a : Option Addr} {c : Nat} {l : List ProdT} (hl : Sl tProdT k a c l) : CTN Try.prog 31 #[.slice a l.length c] k (SavePV (saveP l)) := by
  refine ctn_of_body (l := [_]) Try.func31 rfl Try.ntmps31 (by simp) SavePV.mono fun F hF0 hFm => ?_
  have b1 := hl.cap; have b2 := hl.max; unfold maxLen at b2
  repeat (first | refine cg_seq ?_ | refine cg_region ?_ | refine rg_nil ?_ | refine eg_then ?_ | refine qsp ?_)
  refine rs rfl rfl (loc_call_is rfl rfl rfl rfl (seqsCheck_ct hl)) ?_
  repeat (first | refine cg_seq ?_ | refine cg_region ?_ | refine rg_nil ?_ | refine eg_then ?_ | refine qsp ?_)
  cases q1 : (chkP l != 0)
  case true =>
    repeat (first | refine cg_seq ?_ | refine cg_region ?_ | refine rg_nil ?_ | refine eg_then ?_ | refine qsp ?_ | refine cg_cond_true rfl ?_ | refine cg_ret ?_ | refine eg_then_ret ?_)
    refine eg_return2 rfl rfl rfl ?_
    have : ¬ chkP l = 0 := by simpa using q1
    exact ⟨_, by unfold saveP; rw [if_neg this], by unfold saveP; rw [if_neg this]; exact row_nil _ _ _ _⟩
  have q1' : chkP l = 0 := by simpa using q1
  obtain ⟨hlen, hps⟩ := chk_zero.1 q1'
  have hpo := ((prods_iff l).1 hps).1
  have hI : I64 (l.length : Int) := by unfold I64; omega
  have hv0 := varL_ten (zigN_lt hI)
  repeat (first | refine cg_seq ?_ | refine cg_region ?_ | refine eg_then ?_ | refine qsp ?_ | refine qsn ?_ | refine cg_cond_false rfl ?_ | refine cg_skip ?_)
  refine rvn rfl rfl rfl rfl rfl rfl rfl (putVar_ct (sl_nilB _) (by simp) hI) ?_
  rintro N1 k1 v1 hN1 _ hle1 hrow1
  have hl1 := hl.le hle1
  obtain ⟨pre, hpre⟩ : ∃ pre, varL (zigN (l.length : Int)) = pre := ⟨_, rfl⟩
  have hpb : Bytes pre := by rw [← hpre]; exact varL_bytes _
  rw [hpre] at hrow1 hv0
  repeat (first | refine cg_seq ?_ | refine cg_region ?_ | refine rg_nil ?_ | refine eg_then ?_ | refine qsp ?_ | refine qsn ?_ | refine cg_block ?_)
  refine cg_loop (fun (i : Nat) e k' => ∃ v, Le k1 k' ∧ BRow F.w0.heap.size k' v (pre ++ (l.take i).flatMap prodL) ∧ i ≤ l.length ∧ e = [(5, .is v), (22, .is (.slice a l.length c)), (23, .is (.int .i64 (l.length : Int))), (24, .is (.int .i64 (i : Int)))])
    (fun i => l.length - i) 0 ⟨v1, Le.refl _, by simpa using hrow1.N_le hN1, by omega, rfl⟩ ⟨rfl, rfl, rfl, rfl, trivial⟩ ?_
  rintro i e k2 ⟨v2, hle2, hrow2, hi, rfl⟩
  repeat (first | refine cg_seq ?_ | refine cg_region ?_ | refine rg_nil ?_ | refine eg_then ?_ | refine qsp ?_)
  refine cg_cond rfl (fun h => ?_) (fun h => ?_)
  rotate_left
  · have hil : i = l.length := by have := of_decide_eq_false h; omega
    subst hil
    have hrow2 : BRow F.w0.heap.size k2 v2 (prodsL l) := by rw [List.take_length] at hrow2; unfold prodsL; rw [hpre]; exact hrow2
    obtain ⟨a5, c5, rfl, hs5⟩ := hrow2.sl (prodsL_bytes l)
    have hln := prods_len hpo
    repeat (first | refine cg_seq ?_ | refine cg_region ?_ | refine eg_then ?_ | refine qsp ?_ | refine cg_exit ?_ | refine eg_then_exit ?_ | refine eg_in_exit ?_)
    refine rvn rfl rfl rfl rfl rfl rfl rfl (seal_ct hs5 (by unfold prodsL; rw [List.length_append, hpre]; omega)) ?_
    rintro N6 k6 v6 hN6 _ hle6 hrow6
    repeat (first | refine rg_nil ?_ | refine eg_then ?_ | refine qsp ?_ | refine cg_ret ?_)
    refine eg_return2 rfl rfl rfl ?_
    exact ⟨v6, by unfold saveP; rw [if_pos q1'], by unfold saveP; rw [if_pos q1']; exact hrow6.N_le hN6⟩
  have hlt : i < l.length := by have := of_decide_eq_true h; omega
  have hl2 := hl1.le hle2
  obtain ⟨bx, ox, cx, rfl, ⟨ad, cd, rfl, hsd, hpok⟩, hcx⟩ := hl2.el i l[i] (List.getElem?_eq_getElem hlt)
  have hok := hpo l[i] (List.getElem_mem hlt)
  have hfs := flatS prodL hlt
  obtain ⟨p, hp⟩ : ∃ p, l[i] = p := ⟨_, rfl⟩
  rw [hp] at hcx hsd hok hfs
  obtain ⟨o1, o2, o3, o4⟩ := prodOk_iff.1 hok
  have htl : ((l.take i).flatMap prodL).length ≤ 180 * l.length := by
    have := prods_len (l := l.take i) fun x hx => hpo x (List.mem_of_mem_take hx)
    rw [List.length_take] at this; omega
  obtain ⟨pr2, hpr2⟩ : ∃ pr2, pre ++ (l.take i).flatMap prodL = pr2 := ⟨_, rfl⟩
  have hpl2 : pr2.length ≤ 10 + 180 * l.length := by rw [← hpr2, List.length_append]; omega
  have hpb2 : Bytes pr2 := by rw [← hpr2]; exact hpb.append (prods_bytes _)
  rw [hpr2] at hrow2
  have g1 := hsd.cap; have g2 := hsd.max; unfold maxLen at g2
  repeat (first | refine cg_seq ?_ | refine cg_region ?_ | refine eg_then ?_ | refine qsi ?_ | refine qsg ?_ | refine cg_skip ?_ | refine cg_block ?_)
  refine rb rfl rfl rfl rfl (a_alloc rfl) ?_; intro b7 k3 hb7 hN7 hle3 hk3
  refine rw1 (vs := p.cs ad cd) rfl rfl rfl rfl rfl rfl rfl hk3 rfl (.inl hN7) ?_ ?_
  · simp [ProdT.cs, Value.oneCell']
  intro k4 ht4 hk4
  have hle4 : Le k2 k4 := ht4 k2 hle3 hb7
  obtain ⟨e0, e1, e2⟩ := ProdT.parts (cells_at (vs := p.cs ad cd) hk4 rfl)
  have hrow4 := hrow2.le hle4
  repeat (first | refine cg_seq ?_ | refine cg_region ?_ | refine rg_nil ?_ | refine eg_then ?_ | refine qsn ?_ | refine qsl ?_ | refine qsf ?_)
  refine rs rfl rfl (loc_det rfl (d_arr3V (a := .int .i64 p.pid) (b := .int .i64 p.gen) (c := .int .i64 (p.did.length : Int)) rfl rfl rfl rfl rfl rfl rfl)) ?_
  repeat (first | refine rg_nil ?_ | refine eg_then ?_ | refine qsp ?_ | refine cg_block ?_)
  have hn0 : I64 p.pid := by unfold I64; omega
  have hn1 : I64 p.gen := by unfold I64; omega
  have hn2 : I64 (p.did.length : Int) := by unfold I64; omega
  have hhv := head_vars p
  generalize hgn0 : p.pid = n0 at hn0 hhv e0 ⊢
  generalize hgn1 : p.gen = n1 at hn1 hhv e1 ⊢
  generalize hgn2 : (p.did.length : Int) = n2 at hn2 hhv ⊢
  refine cg_loop (fun (j : Nat) e k' => ∃ v, Le k4 k' ∧ BRow F.w0.heap.size k' v (pr2 ++ varsL ([n0, n1, n2].take j)) ∧ j ≤ 3 ∧ e = [(5, .is v), (22, .is (.slice (some ⟨bx, ox, none⟩) l.length c)), (23, .is (.int .i64 (l.length : Int))), (24, .is (.int .i64 (i : Int))), (7, .is (.pointer (some ⟨b7, 0, none⟩))), (35, .is (.agg #[.int .i64 n0, .int .i64 n1, .int .i64 n2])), (36, .is (.int .i64 (j : Int)))])
    (fun j => 3 - j) 0 ⟨_, Le.refl _, by simpa [varsL] using hrow4, by omega, rfl⟩ ⟨rfl, rfl, rfl, rfl, rfl, rfl, rfl, trivial⟩ ?_
  rintro j e KA ⟨vA, hleA, hrowA, hj, rfl⟩
  repeat (first | refine cg_seq ?_ | refine cg_region ?_ | refine rg_nil ?_ | refine eg_then ?_ | refine qsp ?_)
  refine cg_cond rfl (fun h => ?_) (fun h => ?_)
  · have hlt : j < 3 := by have := of_decide_eq_true h; omega
    obtain ⟨t, ht, htI, hv⟩ := three_at hn0 hn1 hn2 hlt
    repeat (first | refine cg_seq ?_ | refine cg_region ?_ | refine eg_then ?_ | refine cg_skip ?_ | refine cg_block ?_)
    refine rs rfl rfl (loc_det rfl (d_ixV rfl rfl rfl hlt rfl hv)) ?_
    obtain ⟨a5, c5, rfl, hs5⟩ := hrowA.sl (hpb2.append (vars_bytes _))
    repeat (first | refine cg_region ?_ | refine rg_nil ?_ | refine eg_then ?_ | refine qsp ?_)
    refine rvn rfl rfl rfl rfl rfl rfl rfl (putVar_ct hs5 (by have := take3_len hn0 hn1 hn2 j; rw [List.length_append]; omega) htI) ?_
    rintro N6 k6 v6 hN6 _ hle6 hrow6
    repeat (first | refine cg_region ?_ | refine rg_nil ?_ | refine eg_then ?_ | refine qsp ?_ | refine qsa ?_ | refine eg_in_normal ?_)
    refine eg_again (j + 1) _ ⟨v6, hleA.trans hle6, ?_, hlt, rfl⟩ (by omega) ⟨rfl, rfl, rfl, rfl, rfl, rfl, rfl, trivial⟩
    rw [take3_succ ht, ← List.append_assoc]
    exact hrow6.N_le hN6
  have hj3 : j = 3 := by have := of_decide_eq_false h; omega
  subst hj3
  have hrowB : BRow F.w0.heap.size KA vA (pr2 ++ varsL [n0, n1, n2]) := hrowA
  rw [← hhv] at hrowB
  obtain ⟨pr3, hpr3⟩ : ∃ pr3, pr2 ++ prodHead p = pr3 := ⟨_, rfl⟩
  have hpb3 : Bytes pr3 := by rw [← hpr3]; exact hpb2.append (by rw [head_vars]; exact vars_bytes _)
  have hpl3 : pr3.length ≤ 40 + 180 * l.length := by
    have := take3_len hn0 hn1 hn2 3
    have : (prodHead p).length ≤ 30 := by rw [hhv]; simpa using this
    rw [← hpr3, List.length_append]; omega
  rw [hpr3] at hrowB
  have hk7 := hleA _ _ hk4
  clear e0 e1 e2
  obtain ⟨e0, e1, e2⟩ := ProdT.parts (cells_at (vs := p.cs ad cd) hk7 rfl)
  have hdm := dids_mem o4
  have hsdA := hsd.le (hle4.trans hleA)
  clear hgn2
  repeat (first | refine cg_seq ?_ | refine cg_region ?_ | refine rg_nil ?_ | refine eg_then ?_ | refine qsp ?_ | refine qsn ?_ | refine qsl ?_ | refine qsf ?_ | refine cg_block ?_ | refine cg_exit ?_ | refine eg_then_exit ?_ | refine eg_in_exit ?_)
  refine cg_loop (fun (j : Nat) e k' => ∃ v, Le KA k' ∧ BRow F.w0.heap.size k' v (pr3 ++ (p.did.take j).flatMap didL) ∧ j ≤ p.did.length ∧ e = [(5, .is v), (22, .is (.slice (some ⟨bx, ox, none⟩) l.length c)), (23, .is (.int .i64 (l.length : Int))), (24, .is (.int .i64 (i : Int))), (44, .is (.slice ad p.did.length cd)), (45, .is (.int .i64 (p.did.length : Int))), (46, .is (.int .i64 (j : Int)))])
    (fun j => p.did.length - j) 0 ⟨vA, Le.refl _, by simpa using hrowB, by omega, rfl⟩ ⟨rfl, rfl, rfl, rfl, rfl, rfl, rfl, trivial⟩ ?_
  rintro jj e k8 ⟨v8, hle8, hrow8, hjj, rfl⟩
  have hle28 : Le k2 k8 := hle4.trans (hleA.trans hle8)
  repeat (first | refine cg_seq ?_ | refine cg_region ?_ | refine rg_nil ?_ | refine eg_then ?_ | refine qsp ?_)
  refine cg_cond rfl (fun h => ?_) (fun h => ?_)
  rotate_left
  · have hjl : jj = p.did.length := by have := of_decide_eq_false h; omega
    subst hjl
    rw [List.take_length] at hrow8
    repeat (first | refine cg_region ?_ | refine rg_nil ?_ | refine eg_then ?_ | refine qsp ?_ | refine qsa ?_ | refine eg_in_normal ?_ | refine cg_exit ?_ | refine eg_then_exit ?_ | refine eg_in_exit ?_)
    refine eg_again (i + 1) _ ⟨v8, hle2.trans hle28, ?_, hlt, rfl⟩ (by omega) ⟨rfl, rfl, rfl, rfl, trivial⟩
    rw [hfs]
    have : pre ++ ((l.take i).flatMap prodL ++ prodL p) = pr3 ++ p.did.flatMap didL := by rw [← hpr3, ← hpr2]; simp [prodL]
    rw [this]; exact hrow8
  have hjlt : jj < p.did.length := by have := of_decide_eq_true h; omega
  have hfd := flatS didL hjlt
  have htd : ((p.did.take jj).flatMap didL).length ≤ 150 := by
    have := dids_len (l := p.did.take jj) fun x hx => hdm x (List.mem_of_mem_take hx)
    rw [List.length_take] at this; omega
  obtain ⟨by', oy, cy, ead, ⟨rfl, hdI⟩, hcy⟩ := (hsdA.le hle8).el jj p.did[jj] (List.getElem?_eq_getElem hjlt)
  obtain ⟨d, hd⟩ : ∃ d, p.did[jj] = d := ⟨_, rfl⟩
  rw [hd] at hcy hdI hfd
  obtain ⟨pr4, hpr4⟩ : ∃ pr4, pr3 ++ (p.did.take jj).flatMap didL = pr4 := ⟨_, rfl⟩
  have hpl4 : pr4.length ≤ 200 + 180 * l.length := by rw [← hpr4, List.length_append]; omega
  have hpb4 : Bytes pr4 := by rw [← hpr4]; exact hpb3.append (dids_bytes _)
  rw [hpr4] at hrow8
  clear e0 e1 e2
  subst ead
  repeat (first | refine cg_seq ?_ | refine cg_region ?_ | refine eg_then ?_ | refine qsi ?_ | refine qsg ?_ | refine cg_skip ?_ | refine cg_block ?_)
  refine rb rfl rfl rfl rfl (a_alloc rfl) ?_; intro b9 k9 hb9 hN9 hle9 hk9
  refine rw1 (vs := d.vs) rfl rfl rfl rfl rfl rfl rfl hk9 rfl (.inl hN9) ?_ ?_
  · simp [Did.vs, Value.oneCell']
  intro k10 ht10 hk10
  have hle10 : Le k8 k10 := ht10 k8 hle9 hb9
  have hrow10 := hrow8.le hle10
  have c10 := cells_at (vs := d.vs) hk10 rfl
  repeat (first | refine cg_seq ?_ | refine cg_region ?_ | refine rg_nil ?_ | refine eg_then ?_ | refine qsg ?_)
  refine rs rfl rfl (loc_call_is rfl rfl rfl rfl (three_ct)) ?_
  repeat (first | refine rg_nil ?_ | refine eg_then ?_ | refine qsp ?_ | refine cg_block ?_)
  have hdv := did_vars d
  obtain ⟨hn0, hn1, hn2⟩ := hdI
  generalize d.seq = n0 at hn0 hdv ⊢
  generalize d.last = n1 at hn1 hdv ⊢
  generalize d.base = n2 at hn2 hdv ⊢
  refine cg_loop (fun (j : Nat) e k' => ∃ v, Le k10 k' ∧ BRow F.w0.heap.size k' v (pr4 ++ varsL ([n0, n1, n2].take j)) ∧ j ≤ 3 ∧ e = [(5, .is v), (22, .is (.slice (some ⟨bx, ox, none⟩) l.length c)), (23, .is (.int .i64 (l.length : Int))), (24, .is (.int .i64 (i : Int))), (44, .is (.slice (some ⟨by', oy, none⟩) p.did.length cd)), (45, .is (.int .i64 (p.did.length : Int))), (46, .is (.int .i64 (jj : Int))), (51, .is (.agg #[.int .i64 n0, .int .i64 n1, .int .i64 n2])), (52, .is (.int .i64 (j : Int)))])
    (fun j => 3 - j) 0 ⟨_, Le.refl _, by simpa [varsL] using hrow10, by omega, rfl⟩ ⟨rfl, rfl, rfl, rfl, rfl, rfl, rfl, rfl, rfl, trivial⟩ ?_
  rintro j e KC ⟨vC, hleC, hrowCC, hj, rfl⟩
  repeat (first | refine cg_seq ?_ | refine cg_region ?_ | refine rg_nil ?_ | refine eg_then ?_ | refine qsp ?_)
  refine cg_cond rfl (fun h => ?_) (fun h => ?_)
  · have hlt : j < 3 := by have := of_decide_eq_true h; omega
    obtain ⟨t, ht, htI, hv⟩ := three_at hn0 hn1 hn2 hlt
    repeat (first | refine cg_seq ?_ | refine cg_region ?_ | refine eg_then ?_ | refine cg_skip ?_ | refine cg_block ?_)
    refine rs rfl rfl (loc_det rfl (d_ixV rfl rfl rfl hlt rfl hv)) ?_
    obtain ⟨a5, c5, rfl, hs5⟩ := hrowCC.sl (hpb4.append (vars_bytes _))
    repeat (first | refine cg_region ?_ | refine rg_nil ?_ | refine eg_then ?_ | refine qsp ?_)
    refine rvn rfl rfl rfl rfl rfl rfl rfl (putVar_ct hs5 (by have := take3_len hn0 hn1 hn2 j; rw [List.length_append]; omega) htI) ?_
    rintro N6 k6 v6 hN6 _ hle6 hrow6
    repeat (first | refine cg_region ?_ | refine rg_nil ?_ | refine eg_then ?_ | refine qsp ?_ | refine qsa ?_ | refine eg_in_normal ?_)
    refine eg_again (j + 1) _ ⟨v6, hleC.trans hle6, ?_, hlt, rfl⟩ (by omega) ⟨rfl, rfl, rfl, rfl, rfl, rfl, rfl, rfl, rfl, trivial⟩
    rw [take3_succ ht, ← List.append_assoc]
    exact hrow6.N_le hN6
  have hj3 : j = 3 := by have := of_decide_eq_false h; omega
  subst hj3
  have hrowC : BRow F.w0.heap.size KC vC (pr4 ++ varsL [n0, n1, n2]) := hrowCC
  rw [← hdv] at hrowC
  repeat (first | refine cg_region ?_ | refine rg_nil ?_ | refine eg_then ?_ | refine qsp ?_ | refine qsa ?_ | refine eg_in_normal ?_ | refine cg_exit ?_ | refine eg_then_exit ?_ | refine eg_in_exit ?_)
  refine eg_again (jj + 1) _ ⟨vC, hle8.trans (hle10.trans hleC), ?_, hjlt, rfl⟩ (by omega) ⟨rfl, rfl, rfl, rfl, rfl, rfl, rfl, trivial⟩
  rw [hfd, ← List.append_assoc, hpr4]
  exact hrowC
end Go.Wm

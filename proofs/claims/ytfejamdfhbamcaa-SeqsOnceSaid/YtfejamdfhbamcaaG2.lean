/-
  Producers, the program's: where one stands, what it was, whether a batch follows. Conditions: that what is handed in reads as data.
-/
import Derived.Test.YtfejamdfhbamcaaG1
import Derived.Test.YtfejamdfhbamcaaO8
import Derived.Test.YtfejamdfhbamcaaCoB
import Derived.Test.YtfejamdfhbamcaaSto2
set_option linter.all false
namespace Go.Wm
open Go.RowKit Go.Proofs
attribute [local irreducible] RG CG EG WA Loc Det Alc CT Exit.then Exit.inBlock Code.wp bodyPost
set_option maxHeartbeats 1000000 in
theorem binSearchProdT_ct {k : PH} {a : Option Addr} {c : Nat} {l : List ProdT} (hl : Sl tProdT k a c l) (hb : l.length ≤ 1000000) {g : FuncId} [FnOk Try.prog g] {cap : Array Value} (kv : Value) (f : ProdT → Int)
    (hf : ∀ k0, Le k k0 → ∀ m ∈ l, ∀ cm, (tProdT).rep k0 cm m → CT Try.prog g (#[] ++ [.agg cm.toArray, kv].toArray ++ cap) k0 (fun _ v => v = .int .i64 (f m)))
    (hs : ∀ i j, (hi : i < l.length) → (hj : j < l.length) → i < j → f l[j] < 0 → f l[i] < 0) :
    CT Try.prog 190 #[.slice a l.length c, kv, .func (.func g) #[] cap] k (fun _ v => v = .tuple #[.int .i64 (posF f l : Int), .bool (metF f l)]) := by
  refine ct_of_body (l := [_, _, _]) Try.func190 rfl Try.ntmps190 (by simp) (fun _ _ _ _ h => h) fun F hF0 hFm => ?_
  have b1 := hl.cap; have b2 := hl.max; unfold maxLen at b2
  repeat (first | refine cg_seq ?_ | refine cg_region ?_ | refine rg_nil ?_ | refine eg_then ?_ | refine qsp ?_ | refine qsn ?_ | refine cg_block ?_)
  refine cg_loop (fun (m : Nat) e k' => ∃ i j : Nat, m = j - i ∧ Le k k' ∧ i ≤ j ∧ j ≤ l.length ∧ (∀ q, (h : q < l.length) → q < i → f l[q] < 0) ∧ (∀ q, (h : q < l.length) → j ≤ q → ¬ f l[q] < 0) ∧ e = [(0, .is (.slice a l.length c)), (1, .is kv), (2, .is (.func (.func g) #[] cap)), (8, .is (.int .i64 (l.length : Int))), (9, .is (.int .i64 (i : Int))), (10, .is (.int .i64 (j : Int)))])
    (fun m => m) l.length ⟨0, l.length, rfl, Le.refl _, Nat.zero_le _, Nat.le_refl _, fun q _ hq => by omega, fun q _ hq => by omega, rfl⟩ ⟨rfl, rfl, rfl, rfl, rfl, rfl, trivial⟩ ?_
  rintro m e k1 ⟨i, j, rfl, hle, hij, hj, h1, h2, rfl⟩
  repeat (first | refine cg_seq ?_ | refine cg_region ?_ | refine rg_nil ?_ | refine eg_then ?_ | refine qsp ?_)
  refine cg_cond rfl (fun h => ?_) (fun h => ?_)
  · have hlt : i < j := by simpa using h
    repeat (first | refine cg_seq ?_ | refine cg_region ?_ | refine eg_then ?_ | refine qsp ?_ | refine qsa ?_ | refine cg_skip ?_ | refine cg_block ?_)
    have e1 : IntKind.u64.wrap ((i : Int) + (j : Int)) = ((i + j : Nat) : Int) := by
      rw [← Int.natCast_add]; exact u64_halfB (by omega)
    refine rs rfl rfl (loc_det rfl (d_conv rfl rfl)) ?_
    rw [e1]
    refine rs rfl rfl (loc_det rfl (d_shrN (b := 1) rfl rfl rfl (by decide))) ?_
    have e2 : IntKind.i64.wrap (((i + j) / 2 ^ 1 : Nat) : Int) = (((i + j) / 2 : Nat) : Int) := by
      rw [Nat.pow_one]
      simp [IntKind.wrap, IntKind.signed, IntKind.bits]; omega
    refine rs rfl rfl (loc_det rfl (d_conv rfl rfl)) ?_
    rw [e2]
    obtain ⟨q, hq⟩ : ∃ q, q = (i + j) / 2 := ⟨_, rfl⟩
    rw [← hq]
    have hqi : i ≤ q := by omega
    have hqj : q < j := by omega
    have hql : q < l.length := by omega
    obtain ⟨bx, ox, cx, rfl, hrep, hcx⟩ := (hl.le hle).el q l[q] (List.getElem?_eq_getElem hql)
    have hcl := (tProdT).len hrep
    have hcall := hf k1 hle l[q] (List.getElem_mem hql) cx hrep
    repeat (first | refine cg_seq ?_ | refine cg_region ?_ | refine rg_nil ?_ | refine eg_then ?_ | refine qsp ?_ | refine qsi ?_)
    refine rs rfl rfl (loc_det rfl (d_load_agg (vs := cx) rfl rfl rfl hcl hcx)) ?_
    repeat (first | refine qsp ?_)
    refine rs rfl rfl (loc_call_is rfl rfl rfl rfl (hcall)) ?_
    repeat (first | refine rg_nil ?_ | refine eg_then ?_ | refine qsp ?_)
    cases y : decide (f l[q] < 0)
    · repeat (first | refine cg_region ?_ | refine rg_nil ?_ | refine qsp ?_ | refine cg_cond_false rfl ?_ | refine eg_in_normal ?_)
      refine eg_again (q - i) _ ⟨i, q, rfl, hle, hqi, by omega, h1, fun r hr hqr => ?_, rfl⟩ (by omega) ⟨rfl, rfl, rfl, rfl, rfl, rfl, trivial⟩
      have hy : ¬ f l[q] < 0 := by simpa using y
      by_cases e : r = q
      · subst e; exact hy
      · exact fun hr0 => hy (hs q r hql hr (by omega) hr0)
    · repeat (first | refine cg_region ?_ | refine rg_nil ?_ | refine qsp ?_ | refine qsa ?_ | refine cg_cond_true rfl ?_ | refine eg_in_normal ?_)
      refine eg_again (j - (q + 1)) _ ⟨q + 1, j, rfl, hle, by omega, hj, fun r hr hqr => ?_, h2, rfl⟩ (by omega) ⟨rfl, rfl, rfl, rfl, rfl, rfl, trivial⟩
      have hy : f l[q] < 0 := by simpa using y
      by_cases e : r = q
      · subst e; exact hy
      · exact hs r q hr hql (by omega) hy
  · have hij' : i = j := by simp at h; omega
    subst hij'
    have hpl := posF_eq hj h1 (fun h => h2 i h (Nat.le_refl _))
    repeat (first | refine cg_seq ?_ | refine cg_region ?_ | refine eg_then ?_ | refine qsp ?_ | refine cg_exit ?_ | refine eg_then_exit ?_ | refine eg_in_exit ?_)
    cases y : decide ((i : Int) < (l.length : Int))
    · repeat (first | refine rg_nil ?_ | refine eg_then ?_ | refine qsp ?_ | refine qso ?_ | refine cg_ret ?_)
      refine eg_return2 rfl rfl rfl ?_
      have hn : l[i]? = none := by simp at y; simp; omega
      rw [hpl, show metF f l = false by unfold metF; rw [hpl, hn]; rfl]
    have hil : i < l.length := by simpa using y
    obtain ⟨bx, ox, cx, rfl, hrep, hcx⟩ := (hl.le hle).el i l[i] (List.getElem?_eq_getElem hil)
    have hcl := (tProdT).len hrep
    have hcall := hf k1 hle l[i] (List.getElem_mem hil) cx hrep
    repeat (first | refine qsp ?_ | refine qsi ?_)
    refine rs rfl rfl (loc_det rfl (d_load_agg (vs := cx) rfl rfl rfl hcl hcx)) ?_
    repeat (first | refine qsp ?_)
    refine rs rfl rfl (loc_call_is rfl rfl rfl rfl (hcall)) ?_
    repeat (first | refine rg_nil ?_ | refine eg_then ?_ | refine qsp ?_ | refine cg_ret ?_)
    refine eg_return2 rfl rfl rfl ?_
    rw [hpl, show metF f l = (f l[i] == 0) by unfold metF; rw [hpl, List.getElem?_eq_getElem hil]; rw [Bool.eq_iff_iff]; simp]

/-- Producers that may be, and a number beside them. -/
def PidsOk (l : List ProdT) (pid : Int) : Prop := (∀ p ∈ l, 0 ≤ p.pid ∧ p.pid ≤ 1099511627776) ∧ -1 ≤ pid ∧ pid ≤ 1099511627776
theorem pids_of {l : List ProdT} {pid : Int} (h : ProdsP l) (h1 : -1 ≤ pid) (h2 : pid ≤ 1099511627776) : PidsOk l pid := ⟨fun p hp => (prodOk_iff.1 (((prods_iff l).1 h).1 p hp)).1, h1, h2⟩
theorem find1_ct {k : PH} {p : ProdT} {a0 : Option Addr} {c0 : Nat} {pid : Int} (h1 : 0 ≤ p.pid ∧ p.pid ≤ 1099511627776) (h2 : -1 ≤ pid ∧ pid ≤ 1099511627776) : CT Try.prog 191 #[.agg (p.cs a0 c0).toArray, .int .i64 pid] k (fun _ v => v = .int .i64 (toP pid p)) := by
  refine ct_of_body (l := [_, _]) Try.func191 rfl Try.ntmps191 (by simp) (fun _ _ _ _ h => h) fun F hF0 hFm => ?_
  repeat (first | refine cg_seq ?_ | refine cg_region ?_)
  refine rb rfl rfl rfl rfl (a_box rfl rfl) ?_; intro b1 k1 hb1 hN1 hle1 hk1
  obtain ⟨p0, p1, p2⟩ := ProdT.parts (cells_at (vs := p.cs a0 c0) hk1 rfl)
  repeat (first | refine cg_seq ?_ | refine cg_region ?_ | refine rg_nil ?_ | refine eg_then ?_ | refine qsp ?_ | refine qss ?_ | refine qsl ?_ | refine qsf ?_ | refine cg_ret ?_)
  exact eg_return rfl rfl rfl
theorem find_ct {k : PH} {a : Option Addr} {c : Nat} {l : List ProdT} {pid : Int} (hl : Sl tProdT k a c l) (hb : l.length ≤ 1000000) (hp : ProdsP l) (h1 : -1 ≤ pid) (h2 : pid ≤ 1099511627776) : CT Try.prog 148 #[.slice a l.length c, .int .i64 pid] k (fun _ v => v = .tuple #[.int .i64 (posF (toP pid) l : Int), .bool (metF (toP pid) l)]) := by
  refine ct_of_body (l := [_, _]) Try.func148 rfl Try.ntmps148 (by simp) (fun _ _ _ _ h => h) fun F hF0 hFm => ?_
  have hpw := ((prods_iff l).1 hp).2
  have hpo := pids_of hp h1 h2
  repeat (first | refine cg_seq ?_ | refine cg_region ?_ | refine rg_nil ?_ | refine eg_then ?_ | refine qsp ?_)
  refine rs rfl rfl (loc_call_is rfl rfl rfl rfl (binSearchProdT_ct hl hb (.int .i64 pid) (toP pid) (fun k0 hk0 m hm cm ⟨a0, c0, e, _⟩ => by subst e; exact find1_ct (hpo.1 m hm) hpo.2) (posP_split hpw))) ?_
  repeat (first | refine rg_nil ?_ | refine eg_then ?_ | refine qsp ?_ | refine cg_ret ?_)
  exact eg_return2 rfl rfl rfl rfl
theorem did_ct {k : PH} {b : Batch} {a0 : Option Addr} {c0 : Nat} (hf : FormP b) : CT Try.prog 66 #[.agg (b.cs a0 c0).toArray] k (fun _ v => v = .agg (didB b).vs.toArray) := by
  refine ct_of_body (l := [_]) Try.func66 rfl Try.ntmps66 (by simp) (fun _ _ _ _ h => h) fun F hF0 hFm => ?_
  have h1 := hf.base; have h2 := hf.last; have h3 := hf.seq
  repeat (first | refine cg_seq ?_ | refine cg_region ?_)
  refine rb rfl rfl rfl rfl (a_box rfl rfl) ?_; intro b1 k1 hb1 hN1 hle1 hk1
  refine rb rfl rfl rfl rfl (a_alloc rfl) ?_; intro b2 k2 hb2 hN2 hle2 hk2
  obtain ⟨p0, p1, p2, p3, p4, p5, p6, p7, p8, p9⟩ := Batch.parts (cells_at (vs := b.cs a0 c0) (hle2 _ _ hk1) rfl)
  repeat (first | refine cg_seq ?_ | refine cg_region ?_ | refine rg_nil ?_ | refine eg_then ?_ | refine qsa ?_ | refine qss ?_ | refine qsl ?_ | refine qsf ?_)
  refine rs rfl rfl (loc_det rfl (d_lit (cells := (didB b).vs) rfl rfl rfl)) ?_
  refine rw1 (vs := (didB b).vs) rfl rfl rfl rfl rfl rfl rfl hk2 rfl (.inl hN2) ?_ ?_
  · simp [Did.vs, Value.oneCell']
  intro k3 ht3 hk3
  have c3 := cells_at (vs := (didB b).vs) hk3 rfl
  repeat (first | refine rg_nil ?_ | refine eg_then ?_ | refine cg_ret ?_)
  exact eg_returnC rfl rfl rfl c3 rfl rfl
/-- What state hands back: its batches stand where they stood. -/
def StateV (q : ProdT × Bool) (k : PH) (v : Value) : Prop := ∃ a0 c0, v = .tuple #[.agg (q.1.cs a0 c0).toArray, .bool q.2] ∧ Sl tDid k a0 c0 q.1.did
theorem StateV.mono {q : ProdT × Bool} : ∀ k k' v, Le k k' → StateV q k v → StateV q k' v := fun k k' v hle ⟨a0, c0, e, h⟩ => ⟨a0, c0, e, h.le hle⟩
theorem sl_nilD (k : PH) : Sl tDid k none 0 [] := ⟨by simp, by simp [maxLen], fun _ => rfl, by simp, by simp⟩
set_option maxHeartbeats 1000000 in
theorem state_ct {k : PH} {a : Option Addr} {c : Nat} {l : List ProdT} {b : Batch} {ab : Option Addr} {cb : Nat} (hl : Sl tProdT k a c l) (hb : l.length ≤ 1000000) (hp : ProdsP l) (h1 : -1 ≤ b.pid) (h2 : b.pid ≤ 1099511627776) : CT Try.prog 65 #[.slice a l.length c, .agg (b.cs ab cb).toArray] k (StateV (stateR l b)) := by
  refine ct_of_body (l := [_, _]) Try.func65 rfl Try.ntmps65 (by simp) StateV.mono fun F hF0 hFm => ?_
  have b1 := hl.cap; have b2 := hl.max; unfold maxLen at b2
  have hpw := ((prods_iff l).1 hp).2
  have hfp := find_pos (pid := b.pid) hpw
  repeat (first | refine cg_seq ?_ | refine cg_region ?_)
  refine rb rfl rfl rfl rfl (a_box rfl rfl) ?_; intro b3 k3 hb3 hN3 hle3 hk3
  refine rb rfl rfl rfl rfl (a_alloc rfl) ?_; intro b4 k4 hb4 hN4 hle4 hk4
  have hk4' : k4 b4 = some (.cells (ProdT.cs ⟨0, 0, []⟩ none 0).toArray 51 (0, 0)) := hk4
  have hl4 := hl.le (hle3.trans hle4)
  obtain ⟨p0, p1, p2, p3, p4, p5, p6, p7, p8, p9⟩ := Batch.parts (cells_at (vs := b.cs ab cb) (hle4 _ _ hk3) rfl)
  have fresh : stateR l b = (⟨b.pid, b.gen, []⟩, false) → StateV (stateR l b) k4 (.tuple #[.agg (ProdT.cs ⟨b.pid, b.gen, []⟩ none 0).toArray, .bool false]) := fun e => by rw [e]; exact ⟨none, 0, rfl, sl_nilD _⟩
  repeat (first | refine cg_seq ?_ | refine cg_region ?_ | refine rg_nil ?_ | refine eg_then ?_ | refine qsp ?_ | refine qsl ?_ | refine qsf ?_)
  refine rs rfl rfl (loc_call_is rfl rfl rfl rfl (find_ct hl4 hb hp h1 h2)) ?_
  have hmt : metF (toP b.pid) l = true → _ := metF_lt
  generalize posF (toP b.pid) l = pos at hfp hmt ⊢
  repeat (first | refine cg_seq ?_ | refine rg_nil ?_ | refine eg_then ?_ | refine qsp ?_)
  cases q1 : metF (toP b.pid) l
  · rw [q1, if_neg (by simp)] at hfp
    have hst : stateR l b = (⟨b.pid, b.gen, []⟩, false) := by unfold stateR; rw [hfp]
    refine cg_any (by kernel_rfl) rfl ?_
    repeat (first | refine qwp ?_ | refine qwo ?_ | (refine wn rfl ?_; refine eg_then ?_))
    repeat (first | refine cg_seq ?_ | refine cg_region ?_ | refine eg_then ?_ | refine qsl ?_ | refine qsf ?_ | refine cg_cond_false rfl ?_ | refine cg_skip ?_)
    refine rs rfl rfl (loc_det rfl (d_lit (cells := ProdT.cs ⟨b.pid, b.gen, []⟩ none 0) rfl rfl rfl)) ?_
    refine rw1 (vs := ProdT.cs ⟨b.pid, b.gen, []⟩ none 0) rfl rfl rfl rfl rfl rfl rfl hk4 rfl (.inl hN4) ?_ ?_
    · simp [ProdT.cs, Value.oneCell']
    intro k5 ht5 hk5
    repeat (first | refine rg_nil ?_ | refine eg_then ?_ | refine qsp ?_ | refine cg_ret ?_)
    refine eg_returnC2 rfl rfl rfl rfl (cells_at (vs := ProdT.cs ⟨b.pid, b.gen, []⟩ none 0) hk5 rfl) rfl ?_
    rw [hst]; exact ⟨none, 0, rfl, sl_nilD _⟩
  · obtain ⟨hpl, _⟩ := hmt q1
    rw [q1, if_pos rfl, List.getElem?_eq_getElem hpl] at hfp
    obtain ⟨p, hpe⟩ : ∃ p, l[pos] = p := ⟨_, rfl⟩
    rw [hpe] at hfp
    obtain ⟨bx, ox, cx, rfl, ⟨a0, c0, rfl, hsd, hpok⟩, hcx⟩ := (hl.le hle3).el pos l[pos] (List.getElem?_eq_getElem hpl)
    rw [hpe] at hcx hsd hpok
    have hcx3 := hcx
    have hcx := hcx.le hle4
    obtain ⟨e0, e1, e2⟩ := ProdT.parts hcx
    refine cg_any (by kernel_rfl) rfl ?_
    repeat (first | refine qwp ?_ | refine qwi ?_ | refine qwl ?_ | refine qwf ?_ | (refine wn rfl ?_; refine eg_then ?_))
    skip
    cases q2 : decide (p.gen ≥ b.gen)
    · have hst : stateR l b = (⟨b.pid, b.gen, []⟩, false) := by unfold stateR; rw [hfp]; dsimp only; rw [if_neg (by have := of_decide_eq_false q2; omega)]
      repeat (first | refine cg_seq ?_ | refine cg_region ?_ | refine eg_then ?_ | refine qsl ?_ | refine qsf ?_ | refine cg_cond_false rfl ?_ | refine cg_skip ?_)
      refine rs rfl rfl (loc_det rfl (d_lit (cells := ProdT.cs ⟨b.pid, b.gen, []⟩ none 0) rfl rfl rfl)) ?_
      refine rw1 (vs := ProdT.cs ⟨b.pid, b.gen, []⟩ none 0) rfl rfl rfl rfl rfl rfl rfl hk4 rfl (.inl hN4) ?_ ?_
      · simp [ProdT.cs, Value.oneCell']
      intro k5 ht5 hk5
      repeat (first | refine rg_nil ?_ | refine eg_then ?_ | refine qsp ?_ | refine cg_ret ?_)
      refine eg_returnC2 rfl rfl rfl rfl (cells_at (vs := ProdT.cs ⟨b.pid, b.gen, []⟩ none 0) hk5 rfl) rfl ?_
      rw [hst]; exact ⟨none, 0, rfl, sl_nilD _⟩
    · have hst : stateR l b = (p, decide (b.gen < p.gen)) := by unfold stateR; rw [hfp]; dsimp only; rw [if_pos (by have := of_decide_eq_true q2; omega)]
      refine cg_cond_true rfl ?_
      refine cg_seq ?_
      have hd : Le k3 (delL k4 [b4]) := le_delL hle4 (by simpa using hb4)
      refine cg_chain 13 [12] (fun s => match s with | 0 => [(b4, .cells (ProdT.cs ⟨0, 0, []⟩ none 0).toArray 51 (0, 0))] | _ => [(b4, .cells (p.cs a0 c0).toArray 51 (0, 0))]) [b4] (fun s => by cases s <;> rfl) (by kernel_rfl) (by kernel_rfl) rfl (by kernel_rfl) rfl (fun p' hp' => by simp at hp'; rw [hp']; exact hk4') (fun r hr => by simp at hr; rw [hr]; exact hN4) ?_
      clear p0 p1 p2 p3 p4 p5 p6 p7 p8 p9 e0 e1 e2 hcx
      obtain ⟨p0, p1, p2, p3, p4, p5, p6, p7, p8, p9⟩ := Batch.parts ((cells_at (vs := b.cs ab cb) hk3 rfl).le hd)
      have hcx := hcx3.le hd
      obtain ⟨e0, e1, e2⟩ := ProdT.parts hcx
      have hcx := hcx
      dsimp only [List.take]
      repeat (first | refine qcp ?_ | refine qci ?_ | refine qcl ?_ | refine qcg ?_ | refine qcf ?_)
      refine wc_e 0 rfl (effs_stoL (j := 0) (vs := p.cs a0 c0) (c := (ProdT.cs ⟨0, 0, []⟩ none 0).toArray) rfl rfl rfl rfl rfl (by simp [ProdT.cs, Value.oneCell']) rfl rfl rfl (fun i p' h1 h2 => by cases i with | zero => exact absurd rfl h2 | succ i => simp at h1) hN4) ?_
      refine wc_nil ?_
      intro k5 vs hle5 _
      dsimp only [List.drop, set]
      simp only [nameE, nameP]
      have hle6 : Le k3 (setL k5 [(b4, .cells (p.cs a0 c0).toArray 51 (0, 0))]) := le_setL (hd.trans hle5) (by simpa using hb4)
      have hk6 : setL k5 [(b4, .cells (p.cs a0 c0).toArray 51 (0, 0))] b4 = some (.cells (p.cs a0 c0).toArray 51 (0, 0)) := upd_same _ _ _
      repeat (first | refine rg_nil ?_ | refine eg_then ?_ | refine qsp ?_ | refine cg_ret ?_ | refine eg_then_ret ?_)
      refine eg_returnC2 rfl rfl rfl rfl (cells_at (vs := p.cs a0 c0) hk6 rfl) rfl ?_
      rw [hst]; exact ⟨a0, c0, rfl, hsd.le hle6⟩
end Go.Wm

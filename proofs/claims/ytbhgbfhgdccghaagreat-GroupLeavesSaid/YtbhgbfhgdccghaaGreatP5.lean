/-
  The sharing: who has the fewest, and giving. Conditions: that the sharing lies in memory as it should.
-/
import Derived.Test.YtbhgbfhgdccghaaGreatP2
import Derived.Test.YtbhgbfhgdccghaaGreatP4
set_option linter.all false
namespace Go.Wm
open Go.RowKit Go.Proofs
attribute [local irreducible] RG CG EG WA Loc Det Alc CT Exit.then Exit.inBlock Code.wp bodyPost
/-- Who wants it, of the first n. -/
def whoL (l : List Member) (tp : Tp) (n : Nat) : List Int := ((List.range n).filter fun i => (l[i]?).any fun m => decide (tp.topic ∈ m.subs)).map Int.ofNat
theorem whoL_succ {l : List Member} {tp : Tp} {n : Nat} (h : n < l.length) : whoL l tp (n + 1) = whoL l tp n ++ (if tp.topic ∈ l[n].subs then [(n : Int)] else []) := by
  unfold whoL
  rw [List.range_succ, List.filter_append, List.map_append]
  congr 1
  simp only [List.filter_cons, List.filter_nil, List.getElem?_eq_getElem h, Option.any_some]
  by_cases hm : tp.topic ∈ l[n].subs <;> simp [hm]
theorem whoL_mem {l : List Member} {tp : Tp} {n : Nat} {x : Int} (h : x ∈ whoL l tp n) : ∃ i : Nat, x = (i : Int) ∧ i < n := by
  unfold whoL at h
  obtain ⟨i, hi, rfl⟩ := List.mem_map.1 h
  exact ⟨i, rfl, by simpa using (List.mem_filter.1 hi).1⟩
theorem whoL_len (l : List Member) (tp : Tp) (n : Nat) : (whoL l tp n).length ≤ n := by
  unfold whoL
  rw [List.length_map]
  exact Nat.le_trans (List.length_filter_le _ _) (by simp)
/-- How one is before another one. -/
def cmpM (l : List Member) (many : List Int) (x y : Int) : Int := orInt [cmpInt (many.getD x.toNat 0) (many.getD y.toNat 0), cmpStr ((l[x.toNat]?).map (·.id) |>.getD ByteArray.empty) ((l[y.toNat]?).map (·.id) |>.getD ByteArray.empty)]
/-- The fewest. -/
def leastM (l : List Member) (tp : Tp) (many : List Int) : Int := match whoL l tp l.length with
  | [] => -1
  | w => minBy (cmpM l many) w
theorem row_ints {N : Nat} {k : PH} {v : Value} {xs : List Int} (h : Row N k 3 1 v xs.length (xs.flatMap fun x => [Value.int .i64 x])) (hx : ∀ x ∈ xs, I64 x) : ∃ a c, v = .slice a xs.length c ∧ Sl tInt k a c xs :=
  Row.sl (T := tInt) h fun x hm => ⟨rfl, hx x hm⟩
set_option maxHeartbeats 1000000 in
theorem least_ct {h0 k : PH} {bs bw bm : Nat} {l : List Member} {tps : List Tp} {whose many : List Int} (h : Sh h0 k bs bw bm l tps whose many) (hlm : many.length = l.length) (hb : l.length ≤ 1099511627776) (p : Nat) (hp : p < tps.length) :
    CT Tryz.prog 74 #[.pointer (some ⟨bs, 0, none⟩), .int .i64 (p : Int)] k (fun _ v => v = .int .i64 (leastM l tps[p] many)) := by
  have hsh := h
  obtain ⟨hle0, _, _, _, _, _, _, ⟨la, lc, ta, tc, h1, h2, h3⟩, h4, h5⟩ := h
  replace h2 := h2.le hle0
  replace h3 := h3.le hle0
  refine ct_of_body (l := [_, _]) Tryz.func74 rfl Tryz.ntmps74 (by simp) (fun _ _ _ _ h => h) fun F hF0 hFm => ?_
  have b1 := h2.cap; have b2 := h2.max; unfold maxLen at b2
  repeat (first | refine cg_seq ?_ | refine cg_region ?_)
  refine rb rfl rfl rfl rfl (a_box rfl rfl) ?_; intro b3 k3 hb3 hN3 hle3 hk3
  have f2 := cells_at (vs := [.pointer (some ⟨bs, 0, none⟩)]) hk3 rfl
  have fs := (cells_at (vs := [.slice la l.length lc, .slice ta tps.length tc, .slice (some ⟨bw, 0, none⟩) whose.length whose.length, .slice (some ⟨bm, 0, none⟩) many.length many.length]) h1 rfl).le hle3
  have g0 := fs.one (i := 0) rfl
  have g1 := fs.one (i := 1) rfl
  repeat (first | refine cg_seq ?_ | refine cg_region ?_ | refine rg_nil ?_ | refine eg_then ?_ | refine qsp ?_ | refine qsn ?_ | refine qsl ?_ | refine qsf ?_ | refine cg_block ?_)
  refine cg_loop (fun (i : Nat) e k' => ∃ v, Le k3 k' ∧ Row F.w0.heap.size k' 3 1 v (whoL l tps[p] i).length ((whoL l tps[p] i).flatMap fun x => [Value.int .i64 x]) ∧ Apart k3 v ∧ i ≤ l.length ∧ e = [(1, .is (.int .i64 (p : Int))), (2, .is (.pointer (some ⟨b3, 0, none⟩))), (5, .is v), (11, .is (.int .i64 (l.length : Int))), (12, .is (.int .i64 (i : Int)))])
    (fun i => l.length - i) 0 ⟨_, Le.refl _, row_nil _ _ _ _, apart_nil _ _ _, Nat.zero_le _, rfl⟩ ⟨rfl, rfl, rfl, rfl, rfl, trivial⟩ ?_
  rintro i e k1 ⟨v, hle, hrow, hap, hi, rfl⟩
  repeat (first | refine cg_seq ?_ | refine cg_region ?_ | refine rg_nil ?_ | refine eg_then ?_ | refine qsp ?_)
  refine cg_cond rfl (fun h => ?_) (fun h => ?_)
  · have hlt : i < l.length := by simpa using h
    obtain ⟨bx, ox, cx, rfl, hrep, hcx⟩ := (h2.le (hle3.trans hle)).el i l[i] (List.getElem?_eq_getElem hlt)
    obtain ⟨bt, ot, ct, rfl, ⟨rfl, _⟩, hct⟩ := (h3.le (hle3.trans hle)).el p tps[p] (List.getElem?_eq_getElem hp)
    have f2' := f2.le hle
    have g0' := g0.le hle
    have g1' := g1.le hle
    have hcl := tMember.len hrep
    repeat (first | refine cg_seq ?_ | refine cg_region ?_ | refine rg_nil ?_ | refine eg_then ?_ | refine qsp ?_ | refine cg_skip ?_ | refine cg_block ?_)
    refine cg_any (by kernel_rfl) rfl ?_
    repeat (first | refine qwp ?_ | refine qwi ?_ | refine qwl ?_ | refine qwf ?_)
    refine ws rfl (loc_det rfl (d_load_agg (vs := cx) rfl rfl rfl hcl hcx)) ?_
    repeat (first | refine qwp ?_ | refine qwi ?_ | refine qwl ?_ | refine qwg ?_ | refine qwf ?_)
    refine ws rfl (loc_call_is rfl rfl rfl rfl (wants_ct hrep tps[p])) ?_
    repeat (first | (refine wn rfl ?_; refine eg_then ?_))
    by_cases hw : tps[p].topic ∈ l[i].subs
    · refine cg_cond_true (by simp [opv, get, Nat.beq, hw]) ?_
      repeat (first | refine cg_region ?_ | refine qsp ?_)
      refine rb rfl rfl rfl rfl (a_slice rfl rfl rfl rfl (by kernel_rfl) rfl) ?_; intro b7 k7 hb7 hN7 hle7 hk7
      have c7 := cells_at (vs := [Value.int .i64 (i : Int)]) hk7 rfl
      have hwl := whoL_len l tps[p] i
      refine rap rfl rfl rfl rfl rfl rfl rfl (hrow.le hle7) c7 rfl (by simp [Value.oneCell']) rfl rfl (by unfold maxLen; omega) (by omega) ?_
      intro v' k8 hrow8 hturn
      obtain ⟨hle8, hap8⟩ := hturn k3 (hle.trans hle7) hap
      repeat (first | refine cg_region ?_ | refine rg_nil ?_ | refine eg_then ?_ | refine qsp ?_ | refine qsa ?_ | refine eg_in_normal ?_)
      refine eg_again (i + 1) _ ⟨v', hle8, ?_, hap8, hlt, rfl⟩ (by omega) ⟨rfl, rfl, rfl, rfl, rfl, trivial⟩
      rw [whoL_succ hlt, if_pos hw, List.flatMap_append, List.length_append]
      exact hrow8
    · refine cg_cond_false (by simp [opv, get, Nat.beq, hw]) ?_
      repeat (first | refine cg_region ?_ | refine rg_nil ?_ | refine eg_then ?_ | refine qsp ?_ | refine qsa ?_ | refine cg_skip ?_ | refine eg_in_normal ?_)
      refine eg_again (i + 1) _ ⟨v, hle, ?_, hap, hlt, rfl⟩ (by omega) ⟨rfl, rfl, rfl, rfl, rfl, trivial⟩
      rw [whoL_succ hlt, if_neg hw, List.append_nil]
      exact hrow
  · have hil : i = l.length := by simp at h; omega
    subst hil
    have hwl := whoL_len l tps[p] l.length
    obtain ⟨ai, ci, rfl, hsl⟩ := row_ints hrow (fun x hx => by
      obtain ⟨j, rfl, hj⟩ := whoL_mem hx
      unfold I64
      omega)
    repeat (first | refine cg_seq ?_ | refine cg_region ?_ | refine rg_nil ?_ | refine eg_then ?_ | refine qsp ?_ | refine qsn ?_ | refine cg_exit ?_ | refine eg_then_exit ?_ | refine eg_in_exit ?_)
    by_cases hnil : whoL l tps[p] l.length = []
    · refine cg_cond_true (by simp [opv, get, Nat.beq, hnil]) ?_
      repeat (first | refine cg_seq ?_ | refine cg_region ?_ | refine rg_nil ?_ | refine eg_then ?_ | refine qsp ?_ | refine cg_ret ?_ | refine eg_then_ret ?_)
      refine eg_return rfl rfl ?_
      simp [leastM, hnil]
    · refine cg_cond_false (by simp [opv, get, Nat.beq, hnil]) ?_
      repeat (first | refine cg_seq ?_ | refine cg_region ?_ | refine eg_then ?_ | refine qsp ?_ | refine cg_skip ?_)
      have hcb : ∀ x ∈ whoL l tps[p] l.length, ∀ y ∈ whoL l tps[p] l.length, CT Tryz.prog 107 (#[] ++ [.int .i64 x, .int .i64 y].toArray ++ #[.pointer (some ⟨b3, 0, none⟩)]) k1 (fun _ v => v = .int .i64 (cmpM l many x y)) := by
        intro x hx y hy
        obtain ⟨i, rfl, hi⟩ := whoL_mem hx
        obtain ⟨j, rfl, hj⟩ := whoL_mem hy
        have := leastCmp_ct (hsh.up (hle3.trans hle)) (hle _ _ hk3) i j hi hj hlm
        have e : cmpM l many (i : Int) (j : Int) = orInt [cmpInt many[i] many[j], cmpStr l[i].id l[j].id] := by
          have hi' : i < many.length := by omega
          have hj' : j < many.length := by omega
          simp [cmpM, List.getElem?_eq_getElem hi, List.getElem?_eq_getElem hj, hi', hj']
        rw [e]
        exact this
      refine rs rfl rfl (loc_call_is rfl rfl rfl rfl (minFunc_ct hsl hnil (cmpM l many) hcb)) ?_
      repeat (first | refine rg_nil ?_ | refine eg_then ?_ | refine qsp ?_ | refine cg_ret ?_)
      refine eg_return rfl rfl ?_
      unfold leastM
      split
      · rename_i hh; exact absurd hh hnil
      · rfl
theorem set_ints (l : List Int) (i : Nat) (x : Int) : (l.map (Value.int .i64)).toArray.setIfInBounds i (.int .i64 x) = ((l.set i x).map (Value.int .i64)).toArray := by
  simp [List.map_set]
/-- How many each has behind it. -/
def lessM (many : List Int) (x : Int) : List Int := if 0 ≤ x then many.set x.toNat (many.getD x.toNat 0 - 1) else many
def moreM (many : List Int) (x : Int) : List Int := if 0 ≤ x then many.set x.toNat (many.getD x.toNat 0 + 1) else many
set_option maxHeartbeats 1000000 in
theorem give_ct {h0 k : PH} {bs bw bm : Nat} {l : List Member} {tps : List Tp} {whose many : List Int} (h : Sh h0 k bs bw bm l tps whose many) (p : Nat) (m : Int) (hp : p < whose.length) (hold : whose[p] < many.length) (hm : m < many.length)
    (hmany : ∀ x ∈ many, -1099511627776 ≤ x ∧ x ≤ 1099511627776) :
    CTM Tryz.prog 71 #[.pointer (some ⟨bs, 0, none⟩), .int .i64 (p : Int), .int .i64 m] k (fun b => b = bw ∨ b = bm) (fun k' v => v = .tuple #[] ∧ Sh h0 k' bs bw bm l tps (whose.set p m) (moreM (lessM many whose[p]) m)) := by
  obtain ⟨hle0, n0, n1, n2, d0, d1, d2, ⟨la, lc, ta, tc, h1, h2, h3⟩, h4, h5⟩ := h
  refine ctm_of_body (l := [_, _, _]) Tryz.func71 rfl Tryz.ntmps71 (by simp) fun F hF0 hFm hlt => ?_
  have ow : F.w0.heap.size ≤ bw ∨ F.mu bw := .inr (by rw [hFm]; exact .inl rfl)
  have om : F.w0.heap.size ≤ bm ∨ F.mu bm := .inr (by rw [hFm]; exact .inr rfl)
  have fs := cells_at (vs := [.slice la l.length lc, .slice ta tps.length tc, .slice (some ⟨bw, 0, none⟩) whose.length whose.length, .slice (some ⟨bm, 0, none⟩) many.length many.length]) h1 rfl
  have g2 := fs.one (i := 2) rfl
  have g3 := fs.one (i := 3) rfl
  have cw := cells_ints h4 hp
  repeat (first | refine cg_seq ?_ | refine cg_region ?_ | refine rg_nil ?_ | refine eg_then ?_ | refine qsp ?_ | refine qsi ?_ | refine qsl ?_ | refine qsf ?_)
  refine cg_join (fun e' k' => e' = [(0, .is (.pointer (some ⟨bs, 0, none⟩))), (1, .is (.int .i64 (p : Int))), (2, .is (.int .i64 m))] ∧ k' bs = k bs ∧ k' bw = k bw ∧ Le h0 k' ∧ k' bm = some (.cells ((lessM many whose[p]).map (Value.int .i64)).toArray 3 (0, 0))) ?_ ?_
  · by_cases h0p : 0 ≤ whose[p]
    · obtain ⟨o, ho⟩ : ∃ o : Nat, whose[p] = (o : Int) := ⟨whose[p].toNat, by omega⟩
      rw [ho]
      refine cg_cond_true (by simp [opv, get, Nat.beq]) ?_
      have hol : o < many.length := by omega
      have cm := cells_ints h5 hol
      have hb := hmany many[o] (List.getElem_mem hol)
      repeat (first | refine cg_region ?_ | refine qsp ?_ | refine qss ?_ | refine qsi ?_ | refine qsl ?_ | refine qsf ?_)
      refine rw0 rfl rfl rfl rfl rfl rfl rfl rfl h5 ?_ om ?_
      · simp; omega
      intro k1 ht hk1
      repeat (first | refine rg_nil ?_)
      refine eg_join _ ⟨rfl, ?_, ?_, ht h0 hle0 n2, ?_⟩ ⟨rfl, rfl, rfl, trivial⟩
      · rw [h1]; exact turn1_get ht d1 h1
      · rw [h4]; exact turn1_get ht d2 h4
      · rw [hk1]
        simp only [Nat.zero_add, Nat.mul_one]
        rw [set_ints]
        simp [lessM, hol]
    · refine cg_cond_false (by simp [opv, get, Nat.beq]; omega) ?_
      repeat (first | refine cg_skip ?_)
      exact eg_join _ ⟨rfl, rfl, rfl, hle0, by rw [lessM, if_neg h0p]; exact h5⟩ ⟨rfl, rfl, rfl, trivial⟩
  · rintro e' k1 ⟨rfl, q1, q2, hle1, q3⟩
    rw [h1] at q1
    rw [h4] at q2
    have hlen : (lessM many whose[p]).length = many.length := by unfold lessM; split <;> simp
    have hbd : ∀ x ∈ lessM many whose[p], -1099511627777 ≤ x ∧ x ≤ 1099511627776 := by
      intro x hx
      unfold lessM at hx
      split at hx
      · rcases List.mem_or_eq_of_mem_set hx with hx | hx
        · have := hmany x hx; omega
        · have hol : whose[p].toNat < many.length := by omega
          have := hmany many[whose[p].toNat] (List.getElem_mem hol)
          rw [hx]
          simp [hol]
          omega
      · have := hmany x hx; omega
    have fs1 := cells_at (vs := [.slice la l.length lc, .slice ta tps.length tc, .slice (some ⟨bw, 0, none⟩) whose.length whose.length, .slice (some ⟨bm, 0, none⟩) many.length many.length]) q1 rfl
    have gg2 := fs1.one (i := 2) rfl
    repeat (first | refine cg_seq ?_ | refine cg_region ?_ | refine eg_then ?_ | refine qsp ?_ | refine qsi ?_ | refine qsl ?_ | refine qsf ?_)
    refine rw0 rfl rfl rfl rfl rfl rfl rfl rfl q2 ?_ ow ?_
    · simp; omega
    intro k2 ht hk2
    simp only [Nat.zero_add, Nat.mul_one] at hk2
    rw [set_ints] at hk2
    have s1 := turn1_get ht d0 q1
    have s3 := turn1_get ht (Ne.symm d2) q3
    have hle2 := ht h0 hle1 n1
    have fs2 := cells_at (vs := [.slice la l.length lc, .slice ta tps.length tc, .slice (some ⟨bw, 0, none⟩) whose.length whose.length, .slice (some ⟨bm, 0, none⟩) many.length many.length]) s1 rfl
    have gg3 := fs2.one (i := 3) rfl
    repeat (first | refine cg_seq ?_ | refine cg_region ?_ | refine rg_nil ?_ | refine eg_then ?_ | refine qsp ?_)
    have hsz : (whose.set p m).length = whose.length := by simp
    by_cases h0m : 0 ≤ m
    · obtain ⟨o, rfl⟩ : ∃ o : Nat, m = (o : Int) := ⟨m.toNat, by omega⟩
      refine cg_cond_true (by simp [opv, get, Nat.beq]) ?_
      have hol : o < (lessM many whose[p]).length := by omega
      have hol' : o < many.length := by omega
      have cm := cells_ints s3 hol
      have hb := hbd _ (List.getElem_mem hol)
      repeat (first | refine cg_region ?_ | refine qsp ?_ | refine qsa ?_ | refine qsi ?_ | refine qsl ?_ | refine qsf ?_)
      refine rw0 rfl rfl rfl rfl rfl rfl rfl rfl s3 ?_ om ?_
      · simp; omega
      intro k3 ht3 hk3
      simp only [Nat.zero_add, Nat.mul_one] at hk3
      rw [set_ints] at hk3
      repeat (first | refine rg_nil ?_)
      refine eg_done rfl ⟨rfl, ht3 h0 hle2 n2, n0, n1, n2, d0, d1, d2, ⟨la, lc, ta, tc, ?_, h2, h3⟩, turn1_get ht3 d2 hk2, ?_⟩
      · rw [hsz, show (moreM (lessM many whose[p]) (o : Int)).length = many.length by unfold moreM; split <;> simp [hlen]]
        exact turn1_get ht3 d1 s1
      · rw [hk3]
        simp [moreM, hol]
    · refine cg_cond_false (by simp [opv, get, Nat.beq]; omega) ?_
      repeat (first | refine cg_skip ?_)
      refine eg_done rfl ⟨rfl, hle2, n0, n1, n2, d0, d1, d2, ⟨la, lc, ta, tc, ?_, h2, h3⟩, hk2, ?_⟩
      · rw [hsz, show (moreM (lessM many whose[p]) m).length = many.length by unfold moreM; split <;> simp [hlen]]
        exact s1
      · rw [s3, moreM, if_neg h0m]
end Go.Wm

/-
  Batches, the program's: moved to another place. Conditions: that what is handed in reads as data.
-/
import Derived.Test.YtfejamdfhbamcaaG18
import Derived.Test.YtfejamdfhbamcaaO8
import Derived.Test.YtfejamdfhbamcaaGrw
set_option linter.all false
namespace Go.Wm
open Go.RowKit Go.Proofs
def noB : Batch := ⟨0, 0, 0, 0, 0, 0, 0, false, 0, []⟩
def moveR (by' : Int) (r : Rec) : Rec := { r with off := r.off + by' }
def movedB (b : Batch) (base : Int) : Batch := { b with base := base, last := b.last + (base - b.base), recs := b.recs.map (moveR (base - b.base)) }
def movedR (b : Batch) (base : Int) : Batch × Int :=
  if ¬ (0 ≤ base ∧ base ≤ 1099511627776) then (noB, 1) else if chkB b ≠ 0 then (noB, chkB b) else if chkB (movedB b base) ≠ 0 then (noB, chkB (movedB b base)) else (movedB b base, 0)
section
variable {P : Program} {F : Fr} {n : Nat} {ops : Array Oper} {o : Oper} {e : Env} {k : PH}
/-- One cell stored into a block. -/
theorem effs_sto1 {t : TypeId} {x y : Operand} {b off sz bs j q : Nat} {z v : Value} {c : Array Value} {et : TypeId} {kr : PH} {D : Nat → List (Nat × Obj)} [hi : TyI P t sz bs z] (hg : o.guard = none) (hop : o.op = .store t x y) (hx : opv e x = some (.pointer (some ⟨b, off, none⟩))) (hy : opv e y = some v)
    (h1 : v.oneCell' = true) (hsz : Nat.beq sz 1 = true) (hlt : off < c.size) (h0 : (D q)[j]? = some (b, .cells c et (0, 0))) (hD : D (q + 1) = (D q).set j (b, .cells (c.setIfInBounds off v) et (0, 0))) (hne : ∀ i p, (D q)[i]? = some p → i ≠ j → p.1 ≠ b) (hr : F.w0.heap.size ≤ b) :
    EffS P F n ops (XL D) q o e kr (.is undef) :=
  eff_turn hg h0 hD hne hr fun ev w hev hw => .inr ⟨by
    rw [hop] at hev
    have e1 := hev x (by simp [Op.operands]) _ hx
    have e2 := hev y (by simp [Op.operands]) _ hy
    obtain ⟨inf, hi1, hi2, _⟩ := hi.eq
    have hsz1 : sz = 1 := Nat.eq_of_beq_eq_true hsz
    have hcs : v.cells = #[v] := by cases v <;> first | rfl | simp [Value.oneCell'] at h1
    have hc : w.cell? ⟨b, off, none⟩ = some c[off] := by
      simp only [World.cell?, hw, Option.isSome_none, Bool.false_eq_true, if_false]
      exact Array.getElem?_eq_getElem hlt
    have hfz : w.frozen? ⟨b, off, none⟩ = false := by simp [World.frozen?, hw]
    have hrun : (execOp ev o).run P w = .ok .skip (w.setCell ⟨b, off, none⟩ v) := by
      simp [execOp, hop, e1, e2, Instr.storeAt, Instr.sureAddr, storeVar, hcs, run_size hi1, hi2, hsz1, storeCells, addr_add, run_store P w _ v _ h1, hc, hfz]
    rw [hrun]
    have hh : (w.setCell ⟨b, off, none⟩ v).heap = w.heap.setIfInBounds b (.cells (c.setIfInBounds off v) et (0, 0)) := by
      apply Array.ext_getElem?
      intro i
      by_cases hib : i = b
      · subst hib
        rw [heap_setCell_at hw, heap_setObj hw]
      · rw [Below.heap_setCell _ _ _ _ hib, Array.getElem?_setIfInBounds, if_neg (Ne.symm hib)]
    rw [← hh]
    rfl, rfl⟩
/-- A cell of a block that a region turns, read where it is known what stands there. -/
theorem loci_load {I : PH → World → Prop} {t : TypeId} {d : TypeDesc} {x : Operand} {b off : Nat} {v : Value} [h : TyU P t d] (hI : ∀ k w, I k w → ∃ c et fr, w.heap[b]? = some (.cells c et fr) ∧ c[off]? = some v) (hg : wantedE ops e o = some true) (hop : o.op = .load t x) (hx : opv e x = some (.pointer (some ⟨b, off, none⟩))) (hd : aggD d = false) : LocI P n ops I o e k (.is v) := by
  refine ⟨trivial, fun a w k1 hk hs hi _ hl => ?_⟩
  rw [if_pos (wanted_of hl hg)]
  have hev := evs_of hl
  rw [hop] at hev
  obtain ⟨c, et, fr, g1, g2⟩ := hI _ _ hi
  have h3 : w.cell? ⟨b, off, none⟩ = some v := by
    simp only [World.cell?, g1, Option.isSome_none, Bool.false_eq_true, if_false]
    exact g2
  have hrun : (execOp a.eval o).run P w = .ok (.value v) w := by
    simp [execOp, hop, hev x (by simp [Op.operands]) _ hx, Instr.loadAt, Instr.sureAddr, loadVar, run_isAgg h.eq, hd, h3]
  exact (ex_value hrun).mono fun u u' ⟨h1, h2⟩ => by
    subst h2
    exact ⟨k1, Below.refl _ _, fun _ _ => rfl, hs, h1⟩
theorem wc_ii {ms fx : List Nat} {X : Nat → (Nat → Value) → PH → World → Prop} {K : Env → Prop} {i : Nat} {r : List Oper} {d : Nat} {v : Value} (hd : o.dst = some d) (hl : LocI P n ops (fun k w => ∃ s tm, s ≤ fx.length ∧ winOk ms fx i s = true ∧ X s tm k w) o e k (.is v)) (hn : fx.contains i = false) (h : WC P F n ops ms fx k X K (i + 1) r ((d, .is v) :: e)) : WC P F n ops ms fx k X K i (o :: r) e :=
  .inl ⟨hn, _, hl, by rw [hd]; exact h⟩
end
theorem recs_css {k : PH} {css : List (List Value)} {xs : List Rec} (h : Pieces tRec k css xs) : css = xs.map Rec.vs := by
  apply List.ext_getElem?
  intro i
  rw [List.getElem?_map]
  cases h1 : css[i]? with
  | none =>
    have : css.length ≤ i := List.getElem?_eq_none_iff.1 h1
    rw [List.getElem?_eq_none (by rw [← h.1]; exact this)]; rfl
  | some cs =>
    have hi : i < xs.length := by rw [← h.1]; exact (List.getElem?_eq_some_iff.1 h1).1
    rw [List.getElem?_eq_getElem hi, (h.2 i cs _ h1 (List.getElem?_eq_getElem hi)).1]; rfl
theorem moveR_vs (by' : Int) (r : Rec) : (moveR by' r).vs = r.vs.set 0 (.int .i64 (r.off + by')) := rfl
/-- Some are moved, the others stand. -/
def curR (by' : Int) (l : List Rec) (i : Nat) : List Rec := (l.take i).map (moveR by') ++ l.drop i
theorem curR_zero (by' : Int) (l : List Rec) : curR by' l 0 = l := by simp [curR]
theorem curR_end (by' : Int) (l : List Rec) : curR by' l l.length = l.map (moveR by') := by simp [curR]
theorem curR_at {by' : Int} {l : List Rec} {i : Nat} (h : i < l.length) : (curR by' l i)[i]? = some l[i] := by
  unfold curR
  have e : ((l.take i).map (moveR by')).length = i := by rw [List.length_map, List.length_take]; omega
  rw [List.getElem?_append_right (by omega), e, Nat.sub_self, List.getElem?_drop, Nat.add_zero, List.getElem?_eq_getElem h]
theorem curR_succ {by' : Int} {l : List Rec} {i : Nat} (h : i < l.length) : curR by' l (i + 1) = (curR by' l i).set i (moveR by' l[i]) := by
  unfold curR
  rw [List.take_succ_eq_append_getElem h, List.map_append, List.set_append_right _ _ (by simp; omega)]
  have e : i - ((l.take i).map (moveR by')).length = 0 := by simp; omega
  rw [e]
  simp only [List.append_assoc]
  rw [List.drop_eq_getElem_cons h]; rfl
attribute [local irreducible] RG CG EG WA Loc Det Alc CT Exit.then Exit.inBlock Code.wp bodyPost
set_option maxHeartbeats 400000 in
theorem cloneRec_ct {k : PH} {a : Option Addr} {c : Nat} {l : List Rec} (hl : Sl tRec k a c l) (hb : l.length * 56 ≤ 140737488355328) :
    CTN Try.prog 93 #[.slice a l.length c] k (fun N k' v => ∃ css, Pieces tRec k css l ∧ Row N k' 135 5 v l.length css.flatten) := by
  refine ctn_of_body (l := [_]) Try.func93 rfl Try.ntmps93 (by simp) (fun N k k' v hle ⟨css, h1, h2⟩ => ⟨css, h1, h2.le hle⟩) fun F hF0 hFm => ?_
  have b1 := hl.cap; have b2 := hl.max; unfold maxLen at b2
  repeat (first | refine cg_seq ?_ | refine cg_region ?_ | refine rg_nil ?_ | refine eg_then ?_ | refine qsp ?_)
  refine rs rfl rfl (loc_det rfl (d_eqsl rfl rfl)) ?_
  cases a with
  | none =>
    have hc := hl.nil rfl
    have : l = [] := List.length_eq_zero_iff.1 (by omega)
    subst this
    repeat (first | refine cg_seq ?_ | refine cg_region ?_ | refine rg_nil ?_ | refine eg_then ?_ | refine qsp ?_ | refine cg_cond_true rfl ?_ | refine cg_ret ?_ | refine eg_then_ret ?_)
    exact eg_return rfl rfl ⟨[], Pieces.nil _ _, row_nil _ _ _ _⟩
  | some ad =>
    repeat (first | refine cg_seq ?_ | refine cg_region ?_ | refine rg_nil ?_ | refine eg_then ?_ | refine cg_cond_false rfl ?_ | refine cg_skip ?_)
    refine rb rfl rfl rfl rfl (a_empty rfl) ?_; intro b k2 hb2 hN2 hle2 hk2
    repeat (first | refine qsp ?_)
    refine raps2 (T := tRec) (sz := 5) (m := 0) (olds := []) rfl rfl rfl rfl rfl rfl rfl rfl (row_empty hN2 hk2) hl hle2 Rec.one rfl rfl (by unfold maxLen; omega) (by omega) ?_
    intro v k3 css hp hrow ht
    repeat (first | refine rg_nil ?_ | refine eg_then ?_ | refine qsp ?_ | refine cg_ret ?_)
    refine eg_return rfl rfl ⟨css, hp, by simpa using hrow⟩

def MovedV (q : Batch × Int) (k : PH) (v : Value) : Prop := ∃ a c, v = .tuple #[.agg (q.1.cs a c).toArray, .int .i64 q.2] ∧ Sl tRec k a c q.1.recs ∧ q.1.ok
theorem MovedV.mono {q : Batch × Int} : ∀ k k' v, Le k k' → MovedV q k v → MovedV q k' v := fun k k' v hle ⟨a, c, h1, h2, h3⟩ => ⟨a, c, h1, h2.le hle, h3⟩
theorem noB_ok : noB.ok := by
  have z : I64 0 := ⟨by decide, by decide⟩
  exact ⟨z, z, z, z, z, z, z, trivial, z, trivial⟩
theorem sl_nilR (k : PH) : Sl tRec k none 0 [] := ⟨by simp, by simp [maxLen], fun _ => rfl, by simp, by simp⟩
set_option maxHeartbeats 4000000 in
theorem moved_ct {k : PH} {b : Batch} {ab : Option Addr} {cb : Nat} {base : Int} (hr : Sl tRec k ab cb b.recs) (hok : b.ok) (hb : I64 base) :
    CT Try.prog 37 #[.agg (b.cs ab cb).toArray, .int .i64 base] k (MovedV (movedR b base)) := by
  refine ct_of_body (l := [_, _]) Try.func37 rfl Try.ntmps37 (by simp) MovedV.mono fun F hF0 hFm => ?_
  repeat (first | refine cg_seq ?_ | refine cg_region ?_)
  refine rb rfl rfl rfl rfl (a_box rfl rfl) ?_; intro b2 k2 hb2 hN2 hle2 hk2
  refine rb rfl rfl rfl rfl (a_alloc rfl) ?_; intro b4 k4 hb4 hN4 hle4 hk4
  have hk24 := hle4 _ _ hk2
  have n24 : b4 ≠ b2 := fun e => by rw [e, hk2] at hb4; cases hb4
  have hr4 := hr.le (hle2.trans hle4)
  repeat (first | refine cg_seq ?_ | refine cg_region ?_ | refine rg_nil ?_ | refine eg_then ?_ | refine qsp ?_)
  refine rb rfl rfl rfl rfl (a_slice (cells := [.int .i64 base]) rfl rfl rfl rfl (by kernel_rfl) rfl) ?_; intro b5 k5 hb5 hN5 hle5 hk5
  have hs1 : Sl tInt k5 (some ⟨b5, 0, none⟩) 1 [base] := sl_rows (T := tInt) (xs := [base]) (css := [[.int .i64 base]]) hk5 rfl rfl (fun i cs x h1 h2 => by
    cases i with
    | zero => simp at h1 h2; rw [← h1, ← h2]; exact ⟨rfl, hb⟩
    | succ i => simp at h1) (by simp [maxLen])
  refine rs rfl rfl (loc_call_is rfl rfl rfl rfl (within_ct 1099511627776 hs1 (by simp))) ?_
  have hk25 := hle5 _ _ hk24
  have hk45 := hle5 _ _ hk4
  have hr5 := hr4.le hle5
  have hall : allR 1099511627776 [base] = decide (0 ≤ base ∧ base ≤ 1099511627776) := by
    unfold allR inR; simp
  rw [hall]
  cases q1 : decide (0 ≤ base ∧ base ≤ 1099511627776)
  case false =>
    have q1 := of_decide_eq_false q1
    repeat (first | refine cg_seq ?_ | refine cg_region ?_ | refine rg_nil ?_ | refine eg_then ?_ | refine qsp ?_ | refine cg_cond_true rfl ?_)
    refine rs rfl rfl (loc_det rfl (d_lit (cells := noB.cs none 0) rfl rfl rfl)) ?_
    refine rw1 (vs := noB.cs none 0) rfl rfl rfl rfl rfl rfl rfl hk45 rfl (.inl hN4) ?_ ?_
    · simp [Batch.cs, Value.oneCell']
    intro k6 ht6 hk6
    repeat (first | refine rg_nil ?_ | refine eg_then ?_ | refine qsp ?_ | refine cg_ret ?_ | refine eg_then_ret ?_)
    refine eg_returnC2 rfl rfl rfl rfl (cells_at (vs := noB.cs none 0) hk6 rfl) rfl ?_
    unfold movedR; rw [if_pos q1]; exact ⟨none, 0, rfl, sl_nilR _, noB_ok⟩
  have q1 := of_decide_eq_true q1
  have cb5 := cells_at (vs := b.cs ab cb) hk25 rfl
  repeat (first | refine cg_seq ?_ | refine cg_region ?_ | refine rg_nil ?_ | refine eg_then ?_ | refine qsp ?_ | refine qsg ?_ | refine cg_cond_false rfl ?_ | refine cg_skip ?_)
  refine rs rfl rfl (loc_call_is rfl rfl rfl rfl (batchChk_ct hr5 hok)) ?_
  repeat (first | refine cg_seq ?_ | refine cg_region ?_ | refine rg_nil ?_ | refine eg_then ?_ | refine qsp ?_)
  cases q2 : (chkB b != 0)
  case true =>
    repeat (first | refine cg_seq ?_ | refine cg_region ?_ | refine cg_cond_true rfl ?_)
    refine rs rfl rfl (loc_det rfl (d_lit (cells := noB.cs none 0) rfl rfl rfl)) ?_
    repeat (first | refine qsp ?_)
    refine rw1 (vs := noB.cs none 0) rfl rfl rfl rfl rfl rfl rfl hk45 rfl (.inl hN4) ?_ ?_
    · simp [Batch.cs, Value.oneCell']
    intro k6 ht6 hk6
    repeat (first | refine rg_nil ?_ | refine eg_then ?_ | refine qsp ?_ | refine cg_ret ?_ | refine eg_then_ret ?_)
    refine eg_returnC2 rfl rfl rfl rfl (cells_at (vs := noB.cs none 0) hk6 rfl) rfl ?_
    unfold movedR; rw [if_neg (fun h => h q1), if_pos (by simpa using q2)]; exact ⟨none, 0, rfl, sl_nilR _, noB_ok⟩
  have q2 : chkB b = 0 := by simpa using q2
  have hform := chkB_form q2
  have f1 := hform.base; have f2 := hform.last
  obtain ⟨p0, p1, p2, p3, p4, p5, p6, p7, p8, p9⟩ := Batch.parts cb5
  repeat (first | refine cg_seq ?_ | refine cg_region ?_ | refine rg_nil ?_ | refine eg_then ?_ | refine qsp ?_ | refine qss ?_ | refine qsl ?_ | refine qsf ?_ | refine cg_cond_false rfl ?_ | refine cg_skip ?_)
  have hby' : ∃ by', base - b.base = by' := ⟨_, rfl⟩
  obtain ⟨by', hby'⟩ := hby'
  rw [hby']
  have hbr : -1099511627776 ≤ by' ∧ by' ≤ 1099511627776 := by omega
  have hlb : I64 (b.last + by') := by unfold I64; omega
  have hrl : b.recs.length ≤ 16 := hform.few.2
  have hro : ∀ r ∈ b.recs, 0 ≤ r.off ∧ r.off ≤ 1099511627776 := fun r hr => inO_iff.1 (recOk_parts (hform.few.1 r hr)).1
  have hok' : ∀ r ∈ b.recs, r.ok := recs_ok hr5
  have hcs0 : (b.cs ab cb).toArray.setIfInBounds (0 + 0) (.int .i64 base) = (({ b with base := base } : Batch).cs ab cb).toArray := rfl
  unfold I64 at hlb
  refine cg_chain 10 [9] (fun s => match s with | 0 => [(b2, .cells (b.cs ab cb).toArray 25 (0, 0))] | _ => [(b2, .cells (({ b with base := base } : Batch).cs ab cb).toArray 25 (0, 0))]) [b2] (fun s => by cases s <;> rfl) (by kernel_rfl) (by kernel_rfl) rfl (by kernel_rfl) rfl (fun p' hp' => by simp at hp'; rw [hp']; exact hk25) (fun r hr => by simp at hr; rw [hr]; exact hN2) ?_
  dsimp only [List.take]
  have hnk : b4 ≠ b2 := n24
  have hX2 : ∀ (s : Nat) (tm : Nat → Value) (k' : PH) (w : World), XL (fun s => match s with | 0 => [(b2, .cells (b.cs ab cb).toArray 25 (0, 0))] | _ => [(b2, .cells (({ b with base := base } : Batch).cs ab cb).toArray 25 (0, 0))]) s tm k' w → w.heap[b2]? = some (.cells (b.cs ab cb).toArray 25 (0, 0)) ∨ w.heap[b2]? = some (.cells (({ b with base := base } : Batch).cs ab cb).toArray 25 (0, 0)) := by
    intro s tm k' w hX
    cases s with
    | zero => exact .inl (hX (b2, .cells (b.cs ab cb).toArray 25 (0, 0)) (List.mem_singleton.2 rfl)).1
    | succ s => exact .inr (hX (b2, .cells (({ b with base := base } : Batch).cs ab cb).toArray 25 (0, 0)) (List.mem_singleton.2 rfl)).1
  refine wc_s rfl (loc_det rfl (d_pure rfl)) rfl ?_
  repeat (first | refine qcf ?_)
  refine wc_ii (v := .int .i64 b.last) rfl (loci_load (off := 0 + 1) (b := b2) ?_ rfl rfl rfl rfl) rfl ?_
  · rintro k' w ⟨s, tm, _, _, hX⟩
    rcases hX2 s tm k' w hX with h | h <;> exact ⟨_, _, _, h, rfl⟩
  repeat (first | refine qcp ?_ | refine qca ?_ | refine qcf ?_)
  refine wc_ii (v := .slice ab b.recs.length cb) rfl (loci_load (off := 0 + 9) (b := b2) ?_ rfl rfl rfl rfl) rfl ?_
  · rintro k' w ⟨s, tm, _, _, hX⟩
    rcases hX2 s tm k' w hX with h | h <;> exact ⟨_, _, _, h, rfl⟩
  have hd5 : Le k4 (delL k5 [b2]) → True := fun _ => trivial
  have hrd : Sl tRec (delL k5 [b2]) ab cb b.recs := hr.le (le_delL (hle2.trans (hle4.trans hle5)) (by simpa using hb2))
  refine wc_iv (φ := Made (b2 + 1) (delL k5 [b2]) (fun N k' v => ∃ css, Pieces tRec (delL k5 [b2]) css b.recs ∧ Row N k' 135 5 v b.recs.length css.flatten)) rfl (loci_ctn (fun k' w ⟨s, tm, _, _, hX⟩ => by
    rcases hX2 s tm k' w hX with h | h <;> (have := (Array.getElem?_eq_some_iff.1 h).1; omega)) rfl rfl rfl rfl (Le.refl _) (fun M k k' v hle ⟨css, h1, h2⟩ => ⟨css, h1, h2.le hle⟩) (cloneRec_ct hrd (by omega))) rfl ?_
  repeat (first | refine qcf ?_)
  refine wc_e 0 rfl (effs_sto1 (j := 0) (b := b2) (off := 0 + 0) (v := .int .i64 base) (c := (b.cs ab cb).toArray) rfl rfl rfl rfl rfl rfl (by show _ < 10; omega) rfl rfl (fun i p' h1 h2 => by cases i with | zero => exact absurd rfl h2 | succ i => simp at h1) hN2) ?_
  refine wc_nil ?_
  intro k6 vs hle6 hvs
  obtain ⟨M, hM, hMn, css, hpc, hrow⟩ := hvs 32 _ rfl
  clear hvs
  dsimp only [List.drop, set]
  simp only [nameE, nameP]
  generalize vs 32 = v at hrow ⊢
  have hcss : css = b.recs.map Rec.vs := recs_css hpc
  subst hcss
  rw [← List.flatMap_def] at hrow
  obtain ⟨a1, c1, rfl, s1⟩ := Row.sl (T := tRec) (xs := b.recs) (f := Rec.vs) hrow (fun x hx => ⟨rfl, hok' x hx⟩)
  clear s1
  change RG _ _ _ _ _ _ _ (setL k6 [(b2, .cells (({ b with base := base } : Batch).cs ab cb).toArray 25 (0, 0))])
  obtain ⟨k7, hk7e⟩ : ∃ k7, k7 = setL k6 [(b2, .cells (({ b with base := base } : Batch).cs ab cb).toArray 25 (0, 0))] := ⟨_, rfl⟩
  have hk72 : k7 b2 = some (.cells (({ b with base := base } : Batch).cs ab cb).toArray 25 (0, 0)) := by rw [hk7e]; exact upd_same _ _ _
  obtain ⟨c4, hk54, hc4⟩ : ∃ c4, k5 b4 = some (.cells c4 25 (0, 0)) ∧ c4.size = 10 := ⟨_, hk45, rfl⟩
  have hk74 : k7 b4 = some (.cells c4 25 (0, 0)) := by
    rw [hk7e]
    refine (upd_other n24).trans (hle6 b4 _ ?_)
    rw [delL_of (by simpa using n24)]
    exact hk54
  have hrow7 : Row M k7 135 5 (.slice a1 b.recs.length c1) b.recs.length (b.recs.flatMap Rec.vs) := hrow.at fun g hg => by
    rw [hk7e]
    exact upd_other (by have := (hrow.block hg).1; omega)
  have hM4 : b4 < M := by
    have := hMn b4
    rw [delL_of (by simpa using n24), hk45] at this
    exact Nat.lt_of_not_le fun h => by cases this h
  have hle7 : Le k k7 := by
    rw [hk7e]
    exact le_setL ((le_delL ((hle2.trans hle4).trans hle5) (by simpa using hb2)).trans hle6) (by simpa using hb2)
  rw [← hk7e]
  clear hk7e hrow hle6
  repeat (first | refine qsf ?_)
  refine rw0 rfl rfl rfl rfl rfl rfl rfl rfl hk72 (by show _ < 10; omega) (.inl hN2) ?_; intro k8 ht8 hk8
  have hk84 := turn1_get ht8 n24 hk74
  have hrow8 := hrow7.at (k' := k8) fun g hg => by
    obtain ⟨q, ob, hq⟩ := hrow7.block hg
    rw [hq]; exact turn1_get ht8 (by omega) hq
  have hle8 := ht8 k hle7 hb2
  repeat (first | refine qsf ?_)
  refine rw0 rfl rfl rfl rfl rfl rfl rfl rfl hk8 (by show _ < 10; omega) (.inl hN2) ?_; intro k9 ht9 hk9
  have hk94 := turn1_get ht9 n24 hk84
  have hrow9 := hrow8.at (k' := k9) fun g hg => by
    obtain ⟨q, ob, hq⟩ := hrow8.block hg
    rw [hq]; exact turn1_get ht9 (by omega) hq
  have hle9 := ht9 k hle8 hb2
  have hbx : ∃ bx : Batch, bx = { b with base := base, last := b.last + by' } := ⟨_, rfl⟩
  obtain ⟨bx, hbx⟩ := hbx
  have hlen : bx.recs.length = b.recs.length := by rw [hbx]
  have hk92 : k9 b2 = some (.cells (bx.cs a1 c1).toArray 25 (0, 0)) := by rw [hk9, hbx]; rfl
  clear hk9 hk8 hk84 hk72 hk74 hrow7 hrow8 ht8 ht9 hle7 hle8
  have p9 := (Batch.parts (cells_at (vs := bx.cs a1 c1) hk92 rfl)).2.2.2.2.2.2.2.2.2
  rw [hlen] at p9
  repeat (first | refine cg_seq ?_ | refine cg_region ?_ | refine rg_nil ?_ | refine eg_then ?_ | refine qsp ?_ | refine qsn ?_ | refine qsl ?_ | refine qsf ?_ | refine cg_block ?_)
  refine cg_loop (fun (i : Nat) e k' => Le k k' ∧ i ≤ b.recs.length ∧ k' b2 = some (.cells (bx.cs a1 c1).toArray 25 (0, 0)) ∧ (∃ cc, k' b4 = some (.cells cc 25 (0, 0)) ∧ cc.size = 10) ∧ Row M k' 135 5 (.slice a1 b.recs.length c1) b.recs.length ((curR by' b.recs i).flatMap Rec.vs) ∧ e = [(2, .is (.pointer (some ⟨b2, 0, none⟩))), (4, .is (.pointer (some ⟨b4, 0, none⟩))), (7, .is (.int .i64 by')), (38, .is (.int .i64 (b.recs.length : Int))), (39, .is (.int .i64 (i : Int)))])
    (fun i => b.recs.length - i) 0 ⟨hle9, Nat.zero_le _, hk92, ⟨c4, hk94, hc4⟩, by rw [curR_zero]; exact hrow9, rfl⟩ ⟨rfl, rfl, rfl, rfl, rfl, trivial⟩ ?_
  rintro i e k10 ⟨hle10, hi, hk2', ⟨cc, hk4', hcc⟩, hrow10, rfl⟩
  have p9 := (Batch.parts (cells_at (vs := bx.cs a1 c1) hk2' rfl)).2.2.2.2.2.2.2.2.2
  rw [hlen] at p9
  repeat (first | refine cg_seq ?_ | refine cg_region ?_ | refine rg_nil ?_ | refine eg_then ?_ | refine qsp ?_)
  refine cg_cond rfl (fun h => ?_) (fun h => ?_)
  · have hlt : i < b.recs.length := by simpa using h
    rw [List.flatMap_def] at hrow10
    have hat := curR_at (by' := by') hlt
    obtain ⟨g, cap, cur, hve, hgM, hkg, hglt, hcg, hset⟩ := Row.cell (i := i) (j := 0) (cs := b.recs[i].vs) hrow10 (by intro y hy; obtain ⟨r, _, rfl⟩ := List.mem_map.1 hy; rfl) (by rw [List.getElem?_map, hat]; rfl) (by omega)
    cases hve
    have hro1 := hro _ (List.getElem_mem hlt)
    have hlo : I64 (b.recs[i].off + by') := by unfold I64; omega
    unfold I64 at hlo
    have hng2 : b2 ≠ g := by omega
    have hng4 : b4 ≠ g := by omega
    obtain ⟨g0, _⟩ := Rec.parts hcg
    repeat (first | refine cg_seq ?_ | refine cg_region ?_ | refine rg_nil ?_ | refine eg_then ?_ | refine qsp ?_ | refine qsa ?_ | refine qsi ?_ | refine qsl ?_ | refine qsf ?_ | refine cg_skip ?_ | refine cg_block ?_)
    refine rw0 rfl rfl rfl rfl rfl rfl rfl rfl hkg (show 0 + i * 5 + 0 < cur.size by omega) (.inl (by omega)) ?_; intro k11 ht11 hk11
    have hrow11 := hset k11 (.int .i64 (b.recs[i].off + by')) ht11 (by rw [hk11]; simp)
    repeat (first | refine cg_region ?_ | refine rg_nil ?_ | refine eg_then ?_ | refine qsp ?_ | refine qsa ?_ | refine eg_in_normal ?_)
    refine eg_again (i + 1) _ ⟨ht11 k hle10 ?_, hlt, turn1_get ht11 hng2 hk2', ⟨cc, turn1_get ht11 hng4 hk4', hcc⟩, ?_, rfl⟩ (by omega) ⟨rfl, rfl, rfl, rfl, rfl, trivial⟩
    · cases hkk : k g with
      | none => rfl
      | some ob =>
        have := hMn g hgM
        rw [delL_of (by simpa using Ne.symm hng2)] at this
        rw [(hle2.trans (hle4.trans hle5)) g ob hkk] at this
        cases this
    · rw [List.flatMap_def, curR_succ hlt, List.map_set, moveR_vs]
      exact hrow11
  have hil : i = b.recs.length := by simp at h; omega
  subst hil
  rw [curR_end] at hrow10
  have hby2 : movedB b base = { bx with recs := b.recs.map (moveR by') } := by rw [hbx, ← hby']; rfl
  have hmok : (movedB b base).ok := by
    obtain ⟨o1, o2, o3⟩ := hok
    rw [hby2, hbx]
    exact ⟨hb, by unfold I64; omega, o3⟩
  have hrok : ∀ r ∈ b.recs.map (moveR by'), r.ok := by
    intro r hr
    obtain ⟨r0, h0, rfl⟩ := List.mem_map.1 hr
    have h1 := hro _ h0
    obtain ⟨o1, o2⟩ := hok' _ h0
    exact ⟨show I64 (r0.off + by') by unfold I64; omega, o2⟩
  have hl2 : (b.recs.map (moveR by')).length = b.recs.length := List.length_map _
  have hmr : (movedB b base).recs = b.recs.map (moveR by') := by rw [hby2]
  obtain ⟨a2, c2, e2, s2⟩ := Row.sl (T := tRec) (xs := b.recs.map (moveR by')) (by rw [hl2]; exact hrow10) (fun x hx => ⟨rfl, hrok x hx⟩)
  rw [hl2] at e2
  cases e2
  rw [← hmr] at s2
  have hcs2 : bx.cs a1 c1 = (movedB b base).cs a1 c1 := by
    rw [hby2]
    unfold Batch.cs
    dsimp only
    rw [hlen, hl2]
  rw [hcs2] at hk2'
  have cb2 := cells_at (vs := (movedB b base).cs a1 c1) hk2' rfl
  repeat (first | refine cg_seq ?_ | refine cg_region ?_ | refine eg_then ?_ | refine qsg ?_ | refine cg_exit ?_ | refine eg_then_exit ?_ | refine eg_in_exit ?_)
  refine rs rfl rfl (loc_call_is rfl rfl rfl rfl (batchChk_ct s2 hmok)) ?_
  repeat (first | refine cg_seq ?_ | refine cg_region ?_ | refine rg_nil ?_ | refine eg_then ?_ | refine qsp ?_)
  cases q3 : (chkB (movedB b base) != 0)
  case true =>
    repeat (first | refine cg_seq ?_ | refine cg_region ?_ | refine cg_cond_true rfl ?_)
    refine rs rfl rfl (loc_det rfl (d_lit (cells := noB.cs none 0) rfl rfl rfl)) ?_
    repeat (first | refine qsp ?_)
    refine rw1 (vs := noB.cs none 0) rfl rfl rfl rfl rfl rfl rfl hk4' hcc (.inl hN4) ?_ ?_
    · simp [Batch.cs, Value.oneCell']
    intro k12 ht12 hk12
    repeat (first | refine rg_nil ?_ | refine eg_then ?_ | refine qsp ?_ | refine cg_ret ?_ | refine eg_then_ret ?_)
    refine eg_returnC2 rfl rfl rfl rfl (cells_at (vs := noB.cs none 0) hk12 rfl) rfl ?_
    unfold movedR; rw [if_neg (fun h => h q1), if_neg (fun h => h q2), if_pos (by simpa using q3)]; exact ⟨none, 0, rfl, sl_nilR _, noB_ok⟩
  have q3 : chkB (movedB b base) = 0 := by simpa using q3
  repeat (first | refine cg_seq ?_ | refine cg_region ?_ | refine eg_then ?_ | refine qsg ?_ | refine cg_cond_false rfl ?_ | refine cg_skip ?_)
  refine rw1 (vs := (movedB b base).cs a1 c1) rfl rfl rfl rfl rfl rfl rfl hk4' hcc (.inl hN4) ?_ ?_
  · simp [Batch.cs, Value.oneCell']
  intro k12 ht12 hk12
  repeat (first | refine rg_nil ?_ | refine eg_then ?_ | refine qsp ?_ | refine cg_ret ?_)
  refine eg_returnC2 rfl rfl rfl rfl (cells_at (vs := (movedB b base).cs a1 c1) hk12 rfl) rfl ?_
  unfold movedR; rw [if_neg (fun h => h q1), if_neg (fun h => h q2), if_neg (fun h => h q3)]
  refine ⟨a1, c1, rfl, ?_, hmok⟩
  obtain ⟨a3, c3, e3, s3⟩ := Row.sl (T := tRec) (xs := b.recs.map (moveR by')) (k := k12) (N := M) (v := .slice a1 b.recs.length c1) (et := 135) (f := Rec.vs) (by
    rw [hl2]
    exact hrow10.at fun g hg => by
      obtain ⟨q, ob, hq⟩ := hrow10.block hg
      rw [hq]; exact turn1_get ht12 (by omega) hq) (fun x hx => ⟨rfl, hrok x hx⟩)
  rw [hl2] at e3
  cases e3
  rw [← hmr] at s3
  exact s3
end Go.Wm

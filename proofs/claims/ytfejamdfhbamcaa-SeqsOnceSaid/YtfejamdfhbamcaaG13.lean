/-
  Producers, the program's: read, or given up. Conditions: that what is handed in reads as data.
-/
import Derived.Test.YtfejamdfhbamcaaG12
set_option linter.all false
namespace Go.Wm
open Go.RowKit Go.Proofs
def arr3 (ns : List Int) : Array Value := (ns.map (fun n => Value.int IntKind.i64 n) ++ List.replicate (3 - ns.length) (Value.int IntKind.i64 0)).toArray
theorem arr3_set {ns : List Int} {x : Int} (h : ns.length < 3) : (arr3 ns).setIfInBounds (0 + ns.length * 1) (.int .i64 x) = arr3 (ns ++ [x]) := by
  match ns, h with
  | [], _ => rfl
  | [_], _ => rfl
  | [_, _], _ => rfl
  | _ :: _ :: _ :: _, h => simp at h; omega
theorem arr3_size {ns : List Int} (h : ns.length ≤ 3) : (arr3 ns).size = 3 := by simp [arr3]; omega
theorem prodsR_step {bs : List Nat} {n q : Int} {acc : List ProdT} (h1 : (acc.length : Int) < n) (h2 : acc.length ≤ 1024) : prodsR bs n (1025 - acc.length) acc q = (prodR bs q).bind fun t => prodsR bs n (1025 - (acc.length + 1)) (acc ++ [t.1]) t.2 := by
  rw [show 1025 - acc.length = (1025 - (acc.length + 1)) + 1 by omega]
  conv => lhs; unfold prodsR
  rw [if_pos h1]
theorem prodsR_end {bs : List Nat} {n q : Int} {acc : List ProdT} (h : ¬ ((acc.length : Int) < n ∧ acc.length ≤ 1024)) : prodsR bs n (1025 - acc.length) acc q = some acc := by
  by_cases h2 : acc.length ≤ 1024
  · rw [show 1025 - acc.length = (1025 - (acc.length + 1)) + 1 by omega]
    unfold prodsR
    rw [if_neg (fun hc => h ⟨hc, h2⟩)]
  · rw [show 1025 - acc.length = 0 by omega]; rfl
theorem didsR_step {bs : List Nat} {n q : Int} {acc : List Did} (h1 : (acc.length : Int) < n) (h2 : acc.length ≤ 5) : didsR bs n (6 - acc.length) acc q = (didR bs q).bind fun t => didsR bs n (6 - (acc.length + 1)) (acc ++ [t.1]) t.2 := by
  rw [show 6 - acc.length = (6 - (acc.length + 1)) + 1 by omega]
  conv => lhs; unfold didsR
  rw [if_pos h1]
theorem didsR_end {bs : List Nat} {n q : Int} {acc : List Did} (h : ¬ ((acc.length : Int) < n ∧ acc.length ≤ 5)) : didsR bs n (6 - acc.length) acc q = some (acc, q) := by
  by_cases h2 : acc.length ≤ 5
  · rw [show 6 - acc.length = (6 - (acc.length + 1)) + 1 by omega]
    unfold didsR
    rw [if_neg (fun hc => h ⟨hc, h2⟩)]
  · rw [show 6 - acc.length = 0 by omega]; rfl
attribute [local irreducible] RG CG EG WA Loc Det Alc CT Exit.then Exit.inBlock Code.wp bodyPost
set_option maxHeartbeats 4000000 in
theorem read_ctn {k : PH} {a : Option Addr} {c : Nat} {bs : List Nat} (hs : Sl tU8 k a c bs) (hl : bs.length ≤ 100000000) : CTN Try.prog 85 #[.slice a bs.length c] k (ReadV (readP bs)) := by
  refine ctn_of_bodyD (l := [_]) Try.func85 rfl Try.ntmps85 (by simp) ReadV.mono fun F hF0 hFm => ?_
  have hby := sl_bytes hs
  obtain ⟨R, hR⟩ : ∃ R, readP bs = R := ⟨_, rfl⟩
  rw [hR]
  repeat (first | refine cg_seq ?_ | refine cg_region ?_)
  refine rb rfl rfl rfl rfl (a_alloc rfl) ?_; intro bl k1 hbl hNl hle1 hkl
  refine rb rfl rfl rfl rfl (a_alloc rfl) ?_; intro bk k2 hbk hNk hle2 hkk
  repeat (first | refine cg_seq ?_ | refine cg_region ?_ | refine rg_nil ?_ | refine eg_then ?_ | refine qsp ?_)
  refine rdefer rfl rfl rfl rfl rfl rfl ?_
  intro D hD
  repeat (first | refine cg_seq ?_ | refine cg_region ?_ | refine rg_nil ?_ | refine eg_then ?_ | refine qsp ?_)
  refine rs rfl rfl (loc_det rfl (d_lit (cells := [.slice a bs.length c, .int .i64 0]) rfl rfl rfl)) ?_
  refine rb rfl rfl rfl rfl (a_box rfl rfl) ?_; intro br k3 hbr hNr hle3 hkr
  have hne1 : bl ≠ bk := fun e => by rw [e] at hkl; rw [hkl] at hbk; cases hbk
  have hne2 : bl ≠ br := fun e => by have := hle2 _ _ hkl; rw [e] at this; rw [this] at hbr; cases hbr
  have hne3 : bk ≠ br := fun e => by rw [e] at hkk; rw [hkk] at hbr; cases hbr
  have hle13 : Le k k3 := hle1.trans (hle2.trans hle3)
  have k0l : k bl = none := hbl
  have k0k : k bk = none := hle1.none hbk
  have k0r : k br = none := (hle1.trans hle2).none hbr
  have X0 : FxR F.w0.heap.size k k bl bk br (.slice none 0 0) := ⟨hne1, hne2, hne3, k0l, k0k, k0r, k0l, k0k, k0r, apart_nil _ _ _, apart_nil _ _ _⟩
  have I0 : InR F.w0.heap.size k k k3 bl bk br a c bs 0 (.slice none 0 0) 0 [] := ⟨hle13, hkr, hle3 _ _ (hle2 _ _ hkl), hle3 _ _ hkk, hle13, row_nil _ _ _ _⟩
  -- where there is no number
  have bad : ∀ (K : PH) (e : Env) (er : Int) (v : Value), get e 2 = some (.is (.pointer (some ⟨bl, 0, none⟩))) → get e 3 = some (.is (.pointer (some ⟨bk, 0, none⟩))) → K bl = some (.cells #[v] 22 (0, 0)) → K bk = some (.cells #[.bool false] 4 (0, 0)) → R = none →
      EG F 70 (bodyPostD Try.prog Try.f85 (RetF F (ReadV R F.w0.heap.size)) (.panic (pan (.iface 28 (.int .i64 er))))) e K := fun K e er v h2 h3 hKl hKk hRn => by
    refine eg_leave (f := 156) (u' := .panicking [{ v := .iface 28 (.int .i64 er), recovered := true }]) hD (by simp) rfl (closePan_ctd hKl hKk (Ne.symm hne1)) (fun b hb => .inl (by rcases hb with rfl | rfl <;> assumption)) ?_
    rintro a w k' hg ⟨c1, c2⟩ hsub
    exact ⟨_, results_cells2 rfl rfl rfl hsub (hg _ _ h2) (hg _ _ h3) (cells_at (vs := [.slice none 0 0]) c1 rfl) (cells_at (vs := [.bool false]) c2 rfl), by rw [hRn]; rfl⟩
  repeat (first | refine cg_seq ?_ | refine cg_region ?_ | refine rg_nil ?_ | refine eg_then ?_ | refine qsp ?_)
  cases hn : numR bs 0 with
  | none =>
    refine rpc rfl rfl rfl rfl rfl (nextBad_cp I0.rdr (hs.le hle13) ⟨by decide, by decide⟩ hl hn) ?_
    intro k4 hle4
    repeat (first | refine eg_then_panic ?_)
    refine bad _ _ _ _ ?_ ?_ (hle4 _ _ I0.cl) (hle4 _ _ I0.ck) (by rw [← hR]; unfold readP; rw [hn]; rfl) <;> rfl
  | some nq =>
  obtain ⟨n, q0⟩ := nq
  obtain ⟨hnI, hq0⟩ := numR_ok hby hl hn
  have hR0 : R = prodsR bs n (1025 - ([] : List ProdT).length) [] q0 := by rw [← hR]; unfold readP; rw [hn]; rfl
  refine rcm rfl rfl rfl rfl rfl rfl rfl (nextOk_ctm I0.rdr (hs.le hle13) ⟨by decide, by decide⟩ hl hn) (fun b e => .inl (by rw [e]; exact hNr)) ?_
  rintro v4 k4 hkeep4 ⟨rfl, hr4⟩
  have I4 := I0.next X0 (fun h hle hno => hkeep4 h hle (fun b e => by rw [e]; exact hno)) hr4
  repeat (first | refine rg_nil ?_ | refine eg_then ?_ | refine qsp ?_ | refine cg_block ?_)
  refine cg_loop (fun (x : List ProdT × Int) e k' => ∃ h v css, InR F.w0.heap.size k h k' bl bk br a c bs x.2 v x.1.length css.flatten ∧ FxR F.w0.heap.size k h bl bk br v ∧ Pieces tProdT h css x.1 ∧ x.1.length ≤ 1025 ∧ I64 x.2 ∧ R = prodsR bs n (1025 - x.1.length) x.1 x.2 ∧
      e = [(2, .is (.pointer (some ⟨bl, 0, none⟩))), (3, .is (.pointer (some ⟨bk, 0, none⟩))), (4, .is (.func (.func 157) #[.pointer (some ⟨br, 0, none⟩)] #[])), (5, .is (.int .i64 n))])
    (fun x => 1025 - x.1.length) ([], q0) ⟨k, .slice none 0 0, [], I4, X0, Pieces.nil _ _, by simp, hq0, hR0, rfl⟩ ⟨rfl, rfl, rfl, rfl, trivial⟩ ?_
  rintro ⟨acc, q⟩ e K ⟨h, v, css, I, X, hP, hac, hqI, hRr, rfl⟩
  dsimp only at I hP hac hqI hRr ⊢
  have cl := cells_at (vs := [v]) I.cl rfl
  obtain ⟨av, cv, rfl, hsv⟩ := Row.sls (T := tProdT) I.row (hP.le I.leh)
  have b1 := hsv.cap; have b2 := hsv.max; unfold maxLen at b2
  repeat (first | refine cg_seq ?_ | refine cg_region ?_ | refine qsp ?_ | refine qsn ?_ | refine qsl ?_)
  cases q1 : decide (n > (acc.length : Int))
  case false =>
    have hno : ¬ ((acc.length : Int) < n ∧ acc.length ≤ 1024) := fun hc => by have := of_decide_eq_false q1; omega
    repeat (first | refine cg_seq ?_ | refine cg_region ?_ | refine rg_nil ?_ | refine eg_then ?_ | refine qsp ?_ | refine qsl ?_ | refine qso ?_ | refine cg_cond_false rfl ?_ | refine cg_exit ?_ | refine eg_then_exit ?_ | refine eg_in_exit ?_)
    rw [prodsR_end hno] at hRr
    skip
    refine rw0 rfl rfl rfl rfl rfl rfl rfl rfl I.cl (show 0 < 1 by decide) (.inl hNl) ?_; intro k5 ht5 hl5
    have hk5 := turn1_get ht5 (Ne.symm hne1) I.ck
    have row5 := I.row.turnY ht5 I.cl (by decide)
    have le5 := ht5 h I.leh X.hl
    refine rw0 rfl rfl rfl rfl rfl rfl rfl rfl hk5 (show 0 < 1 by decide) (.inl hNk) ?_; intro k6 ht6 hk6
    have hl6 := turn1_get ht6 hne1 hl5
    have row6 := row5.turnY ht6 hk5 (by decide)
    have le6 := ht6 h le5 X.hk
    repeat (first | refine rg_nil ?_ | refine eg_then ?_ | refine cg_ret ?_)
    refine eg_leave (f := 156) (u := .returning) (u' := .returning) hD (by simp) rfl closeRet_ctd (fun b hb => hb.elim) ?_
    rintro a9 w9 k9 hg rfl hsub
    refine ⟨_, results_cells2 rfl rfl rfl hsub (hg _ _ rfl) (hg _ _ rfl) (cells_at (vs := [.slice av acc.length cv]) hl6 rfl) (cells_at (vs := [.bool true]) hk6 rfl), ?_⟩
    rw [hRr]
    exact ⟨_, rfl, css, hP.le le6, row6⟩
  have h1 : (acc.length : Int) < n := by have := of_decide_eq_true q1; omega
  repeat (first | refine rg_nil ?_ | refine eg_then ?_ | refine qsp ?_ | refine qsn ?_ | refine qsl ?_)
  cases q2 : decide ((acc.length : Int) ≤ 1024)
  case false =>
    have hno : ¬ ((acc.length : Int) < n ∧ acc.length ≤ 1024) := fun hc => by have := of_decide_eq_false q2; omega
    repeat (first | refine cg_seq ?_ | refine cg_region ?_ | refine eg_then ?_ | refine qsl ?_ | refine cg_cond_false rfl ?_ | refine cg_exit ?_ | refine eg_then_exit ?_ | refine eg_in_exit ?_)
    rw [prodsR_end hno] at hRr
    skip
    refine rw0 rfl rfl rfl rfl rfl rfl rfl rfl I.cl (show 0 < 1 by decide) (.inl hNl) ?_; intro k5 ht5 hl5
    have hk5 := turn1_get ht5 (Ne.symm hne1) I.ck
    have row5 := I.row.turnY ht5 I.cl (by decide)
    have le5 := ht5 h I.leh X.hl
    refine rw0 rfl rfl rfl rfl rfl rfl rfl rfl hk5 (show 0 < 1 by decide) (.inl hNk) ?_; intro k6 ht6 hk6
    have hl6 := turn1_get ht6 hne1 hl5
    have row6 := row5.turnY ht6 hk5 (by decide)
    have le6 := ht6 h le5 X.hk
    repeat (first | refine rg_nil ?_ | refine eg_then ?_ | refine cg_ret ?_)
    refine eg_leave (f := 156) (u := .returning) (u' := .returning) hD (by simp) rfl closeRet_ctd (fun b hb => hb.elim) ?_
    rintro a9 w9 k9 hg rfl hsub
    refine ⟨_, results_cells2 rfl rfl rfl hsub (hg _ _ rfl) (hg _ _ rfl) (cells_at (vs := [.slice av acc.length cv]) hl6 rfl) (cells_at (vs := [.bool true]) hk6 rfl), ?_⟩
    rw [hRr]
    exact ⟨_, rfl, css, hP.le le6, row6⟩
  have h2 : acc.length ≤ 1024 := by have := of_decide_eq_true q2; omega
  rw [prodsR_step h1 h2] at hRr
  repeat (first | refine cg_seq ?_ | refine cg_region ?_ | refine eg_then ?_ | refine qsp ?_ | refine cg_cond_true rfl ?_ | refine cg_skip ?_ | refine cg_block ?_)
  unfold prodR at hRr
  cases hx : numR bs q with
  | none =>
    rw [hx] at hRr
    refine rpc rfl rfl rfl rfl rfl (nextBad_cp I.rdr (hs.le I.le0) hqI hl hx) ?_
    intro k9 hle9
    repeat (first | refine eg_then_panic ?_ | refine eg_in_panic ?_)
    refine bad _ _ _ _ ?_ ?_ (hle9 _ _ I.cl) (hle9 _ _ I.ck) hRr <;> rfl
  | some xq =>
  obtain ⟨x, q1⟩ := xq
  rw [hx] at hRr; simp only [Option.bind_some] at hRr
  obtain ⟨hxI, hq1I⟩ := numR_ok hby hl hx
  refine rcm rfl rfl rfl rfl rfl rfl rfl (nextOk_ctm I.rdr (hs.le I.le0) hqI hl hx) (fun b e => .inl (by rw [e]; exact hNr)) ?_
  clear hx
  rintro _ K1 hkeepK1 ⟨rfl, hrK1⟩
  have htK1 : Turn1 _ K1 br := fun h hle hno => hkeepK1 h hle (fun b e => by rw [e]; exact hno)
  have I1 := I.next X htK1 hrK1
  skip
  refine rs rfl rfl (loc_det rfl (d_lit (cells := ProdT.cs ⟨x, 0, []⟩ none 0) rfl rfl rfl)) ?_
  refine rb rfl rfl rfl rfl (a_alloc rfl) ?_; intro bp K2 hbp hNp hle2 hk2
  refine rw1 (vs := ProdT.cs ⟨x, 0, []⟩ none 0) rfl rfl rfl rfl rfl rfl rfl hk2 rfl (.inl hNp) ?_ ?_
  · simp [ProdT.cs, Value.oneCell']
  intro K3 ht3 hk3
  have np1 : bp ≠ bl := fun e => by have := I1.cl; rw [← e, hbp] at this; cases this
  have np2 : bp ≠ bk := fun e => by have := I1.ck; rw [← e, hbp] at this; cases this
  have np3 : bp ≠ br := fun e => by have := I1.rdr; unfold Rdr at this; rw [← e, hbp] at this; cases this
  have npv : (Value.slice av acc.length cv).ownBlock ≠ some bp := fun e => by obtain ⟨_, ob, ho⟩ := I1.row.block e; rw [hbp] at ho; cases ho
  have npk : k bp = none := I1.le0.none hbp
  have nph : h bp = none := I1.leh.none hbp
  have I3 := (I1.le hle2).turn ht3 npv np1 np2 np3 npk nph
  clear ht3 hle2 hk2 I1
  repeat (first | refine cg_seq ?_ | refine cg_region ?_ | refine rg_nil ?_ | refine eg_then ?_ | refine qsp ?_)
  cases hx : numR bs q1 with
  | none =>
    rw [hx] at hRr
    refine rpc rfl rfl rfl rfl rfl (nextBad_cp I3.rdr (hs.le I3.le0) hq1I hl hx) ?_
    intro k9 hle9
    repeat (first | refine eg_then_panic ?_ | refine eg_in_panic ?_)
    refine bad _ _ _ _ ?_ ?_ (hle9 _ _ I3.cl) (hle9 _ _ I3.ck) hRr <;> rfl
  | some xq =>
  obtain ⟨y, q2⟩ := xq
  rw [hx] at hRr; simp only [Option.bind_some] at hRr
  obtain ⟨hyI, hq2I⟩ := numR_ok hby hl hx
  refine rcm rfl rfl rfl rfl rfl rfl rfl (nextOk_ctm I3.rdr (hs.le I3.le0) hq1I hl hx) (fun b e => .inl (by rw [e]; exact hNr)) ?_
  clear hx
  rintro _ K4 hkeepK4 ⟨rfl, hrK4⟩
  have htK4 : Turn1 _ K4 br := fun h hle hno => hkeepK4 h hle (fun b e => by rw [e]; exact hno)
  have I4 := I3.next X htK4 hrK4
  have hk4 := turn1_get htK4 np3 hk3
  repeat (first | refine qsf ?_)
  refine rw0 rfl rfl rfl rfl rfl rfl rfl rfl hk4 (show 0 + 1 < 3 by decide) (.inl hNp) ?_; intro K5 ht5 hk5
  have hk5 : K5 bp = some (.cells #[.int .i64 x, .int .i64 y, .slice none 0 0] 51 (0, 0)) := hk5
  have I5 := I4.turn ht5 npv np1 np2 np3 npk nph
  repeat (first | refine cg_seq ?_ | refine cg_region ?_ | refine rg_nil ?_ | refine eg_then ?_ | refine qsp ?_)
  cases hx : numR bs q2 with
  | none =>
    rw [hx] at hRr
    refine rpc rfl rfl rfl rfl rfl (nextBad_cp I5.rdr (hs.le I5.le0) hq2I hl hx) ?_
    intro k9 hle9
    repeat (first | refine eg_then_panic ?_ | refine eg_in_panic ?_)
    refine bad _ _ _ _ ?_ ?_ (hle9 _ _ I5.cl) (hle9 _ _ I5.ck) hRr <;> rfl
  | some xq =>
  obtain ⟨m, q3⟩ := xq
  rw [hx] at hRr; simp only [Option.bind_some] at hRr
  obtain ⟨hmI, hq3I⟩ := numR_ok hby hl hx
  refine rcm rfl rfl rfl rfl rfl rfl rfl (nextOk_ctm I5.rdr (hs.le I5.le0) hq2I hl hx) (fun b e => .inl (by rw [e]; exact hNr)) ?_
  clear hx
  rintro _ K6 hkeepK6 ⟨rfl, hrK6⟩
  have htK6 : Turn1 _ K6 br := fun h hle hno => hkeepK6 h hle (fun b e => by rw [e]; exact hno)
  have I6 := I5.next X htK6 hrK6
  have hk6 := turn1_get htK6 np3 hk5
  clear hk5 hk4 hk3 I5 I4 I3 ht5
  repeat (first | refine rg_nil ?_ | refine eg_then ?_ | refine qsp ?_ | refine cg_block ?_)
  have hRr : R = (didsR bs m (6 - ([] : List Did).length) [] q3).bind fun s => prodsR bs n (1025 - (acc.length + 1)) (acc ++ [⟨x, y, s.1⟩]) s.2 := by
    rw [hRr]; show ((didsR bs m 6 [] q3).bind _).bind _ = _
    cases didsR bs m 6 [] q3 <;> rfl
  generalize hG : (fun s : List Did × Int => prodsR bs n (1025 - (acc.length + 1)) (acc ++ [⟨x, y, s.1⟩]) s.2) = G at hRr
  refine cg_loop (fun (z : List Did × Int) e k' => ∃ w, InR F.w0.heap.size k h k' bl bk br a c bs z.2 (.slice av acc.length cv) acc.length css.flatten ∧ k' bp = some (.cells #[.int .i64 x, .int .i64 y, w] 51 (0, 0)) ∧ Row F.w0.heap.size k' 101 3 w z.1.length (z.1.flatMap Did.vs) ∧ Apart h w ∧ Apart k w ∧ (∀ d ∈ z.1, d.ok) ∧ z.1.length ≤ 6 ∧ I64 z.2 ∧ R = (didsR bs m (6 - z.1.length) z.1 z.2).bind G ∧
      e = [(2, .is (.pointer (some ⟨bl, 0, none⟩))), (3, .is (.pointer (some ⟨bk, 0, none⟩))), (4, .is (.func (.func 157) #[.pointer (some ⟨br, 0, none⟩)] #[])), (5, .is (.int .i64 n)), (6, .is (.pointer (some ⟨bp, 0, none⟩))), (7, .is (.int .i64 m))])
    (fun z => 6 - z.1.length) ([], q3) ⟨.slice none 0 0, I6, hk6, row_nil _ _ _ _, apart_nil _ _ _, apart_nil _ _ _, by simp, by simp, hq3I, hRr, rfl⟩ ⟨rfl, rfl, rfl, rfl, rfl, rfl, trivial⟩ ?_
  clear hRr I6 hk6 hkeepK1 hkeepK4 hkeepK6 htK1 htK4 htK6 hrK1 hrK4 hrK6
  rintro ⟨ds, r⟩ e L ⟨w, J, hbp9, hw, haw, hkw, hdok, hd6, hrI, hRr, rfl⟩
  dsimp only at J hw hdok hd6 hrI hRr ⊢
  obtain ⟨aw, cw, rfl, hsw⟩ := Row.sl (T := tDid) (f := Did.vs) hw (fun d hd => ⟨rfl, hdok d hd⟩)
  have d1 := hsw.cap; have d2 := hsw.max; unfold maxLen at d2
  obtain ⟨e0, e1, e2⟩ := ProdT.parts (cells_at (vs := ProdT.cs ⟨x, y, ds⟩ aw cw) hbp9 rfl)
  have e2 : Cells L bp 2 [.slice aw ds.length cw] := e2
  repeat (first | refine cg_seq ?_ | refine cg_region ?_ | refine qsp ?_ | refine qsn ?_ | refine qsl ?_ | refine qsf ?_)
  cases p1 : decide (m > (ds.length : Int))
  case false =>
    have hno : ¬ ((ds.length : Int) < m ∧ ds.length ≤ 5) := fun hc => by have := of_decide_eq_false p1; omega
    repeat (first | refine cg_region ?_ | refine rg_nil ?_ | refine eg_then ?_ | refine qsp ?_ | refine qso ?_ | refine cg_cond_false rfl ?_ | refine cg_exit ?_ | refine eg_then_exit ?_ | refine eg_in_exit ?_)
    rw [didsR_end hno] at hRr
    have hRr : R = G (ds, r) := hRr
    rw [← hG] at hRr
    dsimp only at hRr
    clear e0 e1 e2
    have cbl := cells_at (vs := [.slice av acc.length cv]) J.cl rfl
    have cbp := cells_at (vs := ProdT.cs ⟨x, y, ds⟩ aw cw) hbp9 rfl
    repeat (first | refine qsl ?_ | refine qsg ?_)
    refine rb rfl rfl rfl rfl (a_slice (cells := ProdT.cs ⟨x, y, ds⟩ aw cw) rfl rfl rfl rfl (by kernel_rfl) rfl) ?_; intro bn L2 hbn hNn hle2 hkn
    refine rap (j := 1) (news := ProdT.cs ⟨x, y, ds⟩ aw cw) rfl rfl rfl rfl rfl rfl rfl (J.row.le hle2) (cells_at hkn rfl) rfl (by simp [ProdT.cs, Value.oneCell']) (by kernel_rfl) rfl (by unfold maxLen; omega) (by omega) ?_
    rintro v' L3 hrow3 htn
    have J2 := J.le hle2
    obtain ⟨h', hh'⟩ : ∃ h' : PH, h' = fun b => if b = bl ∨ b = bk ∨ b = br ∨ (Value.slice av acc.length cv).ownBlock = some b then none else L b := ⟨_, rfl⟩
    have hle' : Le h' L := fun b ob hb => by
      rw [hh'] at hb; dsimp only at hb
      split at hb
      · cases hb
      · exact hb
    have hap' : Apart h' (.slice av acc.length cv) := fun g hg => by rw [hh']; simp only [hg, or_true, if_true]
    have hhh : Le h h' := fun b ob hb => by
      have e0 : b ≠ bl := fun e => by rw [e, X.hl] at hb; cases hb
      have e1 : b ≠ bk := fun e => by rw [e, X.hk] at hb; cases hb
      have e2 : b ≠ br := fun e => by rw [e, X.hr] at hb; cases hb
      have e3 : (Value.slice av acc.length cv).ownBlock ≠ some b := fun e => by rw [X.ap b e] at hb; cases hb
      rw [hh']; dsimp only; rw [if_neg (by simp only [e0, e1, e2, e3, or_self, not_false_eq_true])]; exact J.leh b ob hb
    have hwh : Row F.w0.heap.size h' 101 3 (.slice aw ds.length cw) ds.length (ds.flatMap Did.vs) := hw.at fun g hg => by
      have e0 : g ≠ bl := fun e => hw.owner J.cl (by decide) (by rw [← e]; exact hg)
      have e1 : g ≠ bk := fun e => hw.owner J.ck (by decide) (by rw [← e]; exact hg)
      have e2 : g ≠ br := fun e => hw.owner J.rdr (by decide) (by rw [← e]; exact hg)
      have e3 : (Value.slice av acc.length cv).ownBlock ≠ some g := hw.two J.row (by decide) hg
      rw [hh']; dsimp only; rw [if_neg (by simp only [e0, e1, e2, e3, or_self, not_false_eq_true])]
    obtain ⟨_, _, ew, hsh⟩ := Row.sl (T := tDid) (f := Did.vs) hwh (fun d hd => ⟨rfl, hdok d hd⟩)
    cases ew
    have hrep : tProdT.rep h' (ProdT.cs ⟨x, y, ds⟩ aw cw) ⟨x, y, ds⟩ := ⟨aw, cw, rfl, hsh, hxI, hyI, trivial⟩
    obtain ⟨lh3, ah3⟩ := htn h' (hle'.trans hle2) hap'
    obtain ⟨l03, a03⟩ := htn k J2.le0 X.a0
    have hd := (htn (delV L2 (.slice av acc.length cv)) (delV_le _ _) (fun g hg => delV_own hg)).1
    have bl3 := hd bl _ (by rw [delV_of (J2.row.owner J2.cl (by decide))]; exact J2.cl)
    have bk3 := hd bk _ (by rw [delV_of (J2.row.owner J2.ck (by decide))]; exact J2.ck)
    have br3 := hd br _ (by rw [delV_of (J2.row.owner J2.rdr (by decide))]; exact J2.rdr)
    refine rw0 rfl rfl rfl rfl rfl rfl hrow3.oneV rfl bl3 (show 0 < 1 by decide) (.inl hNl) ?_; intro L4 ht4 hk4
    have hl'0 : h' bl = none := by rw [hh']; simp
    have X' : FxR F.w0.heap.size k h' bl bk br v' := ⟨X.lk, X.lr, X.kr, X.l0, X.kk0, X.r0, hl'0, by rw [hh']; simp, by rw [hh']; simp, ah3, a03⟩
    have J4 : InR F.w0.heap.size k h' L4 bl bk br a c bs r v' (acc.length + 1) (css.flatten ++ ProdT.cs ⟨x, y, ds⟩ aw cw) :=
      ⟨ht4 k l03 X.l0, turn1_get ht4 (Ne.symm X.lr) br3, hk4, turn1_get ht4 (Ne.symm X.lk) bk3, ht4 h' lh3 hl'0, hrow3.turnY ht4 bl3 (by decide)⟩
    repeat (first | refine rg_nil ?_ | refine eg_in_normal ?_)
    refine eg_again (acc ++ [⟨x, y, ds⟩], r) _ ⟨h', v', css ++ [ProdT.cs ⟨x, y, ds⟩ aw cw], ?_, X', (hP.le hhh).append (Pieces.one hrep), by simp; omega, hrI, by simpa using hRr, rfl⟩ (by simp; omega) ⟨rfl, rfl, rfl, rfl, trivial⟩
    simpa using J4
  have p1' : (ds.length : Int) < m := by have := of_decide_eq_true p1; omega
  repeat (first | refine rg_nil ?_ | refine eg_then ?_ | refine qsp ?_ | refine qsn ?_ | refine qsl ?_ | refine qsf ?_)
  cases p2 : decide ((ds.length : Int) ≤ 5)
  case false =>
    have hno : ¬ ((ds.length : Int) < m ∧ ds.length ≤ 5) := fun hc => by have := of_decide_eq_false p2; omega
    repeat (first | refine cg_region ?_ | refine eg_then ?_ | refine cg_cond_false rfl ?_ | refine cg_exit ?_ | refine eg_then_exit ?_ | refine eg_in_exit ?_)
    rw [didsR_end hno] at hRr
    have hRr : R = G (ds, r) := hRr
    rw [← hG] at hRr
    dsimp only at hRr
    clear e0 e1 e2
    have cbl := cells_at (vs := [.slice av acc.length cv]) J.cl rfl
    have cbp := cells_at (vs := ProdT.cs ⟨x, y, ds⟩ aw cw) hbp9 rfl
    repeat (first | refine qsl ?_ | refine qsg ?_)
    refine rb rfl rfl rfl rfl (a_slice (cells := ProdT.cs ⟨x, y, ds⟩ aw cw) rfl rfl rfl rfl (by kernel_rfl) rfl) ?_; intro bn L2 hbn hNn hle2 hkn
    refine rap (j := 1) (news := ProdT.cs ⟨x, y, ds⟩ aw cw) rfl rfl rfl rfl rfl rfl rfl (J.row.le hle2) (cells_at hkn rfl) rfl (by simp [ProdT.cs, Value.oneCell']) (by kernel_rfl) rfl (by unfold maxLen; omega) (by omega) ?_
    rintro v' L3 hrow3 htn
    have J2 := J.le hle2
    obtain ⟨h', hh'⟩ : ∃ h' : PH, h' = fun b => if b = bl ∨ b = bk ∨ b = br ∨ (Value.slice av acc.length cv).ownBlock = some b then none else L b := ⟨_, rfl⟩
    have hle' : Le h' L := fun b ob hb => by
      rw [hh'] at hb; dsimp only at hb
      split at hb
      · cases hb
      · exact hb
    have hap' : Apart h' (.slice av acc.length cv) := fun g hg => by rw [hh']; simp only [hg, or_true, if_true]
    have hhh : Le h h' := fun b ob hb => by
      have e0 : b ≠ bl := fun e => by rw [e, X.hl] at hb; cases hb
      have e1 : b ≠ bk := fun e => by rw [e, X.hk] at hb; cases hb
      have e2 : b ≠ br := fun e => by rw [e, X.hr] at hb; cases hb
      have e3 : (Value.slice av acc.length cv).ownBlock ≠ some b := fun e => by rw [X.ap b e] at hb; cases hb
      rw [hh']; dsimp only; rw [if_neg (by simp only [e0, e1, e2, e3, or_self, not_false_eq_true])]; exact J.leh b ob hb
    have hwh : Row F.w0.heap.size h' 101 3 (.slice aw ds.length cw) ds.length (ds.flatMap Did.vs) := hw.at fun g hg => by
      have e0 : g ≠ bl := fun e => hw.owner J.cl (by decide) (by rw [← e]; exact hg)
      have e1 : g ≠ bk := fun e => hw.owner J.ck (by decide) (by rw [← e]; exact hg)
      have e2 : g ≠ br := fun e => hw.owner J.rdr (by decide) (by rw [← e]; exact hg)
      have e3 : (Value.slice av acc.length cv).ownBlock ≠ some g := hw.two J.row (by decide) hg
      rw [hh']; dsimp only; rw [if_neg (by simp only [e0, e1, e2, e3, or_self, not_false_eq_true])]
    obtain ⟨_, _, ew, hsh⟩ := Row.sl (T := tDid) (f := Did.vs) hwh (fun d hd => ⟨rfl, hdok d hd⟩)
    cases ew
    have hrep : tProdT.rep h' (ProdT.cs ⟨x, y, ds⟩ aw cw) ⟨x, y, ds⟩ := ⟨aw, cw, rfl, hsh, hxI, hyI, trivial⟩
    obtain ⟨lh3, ah3⟩ := htn h' (hle'.trans hle2) hap'
    obtain ⟨l03, a03⟩ := htn k J2.le0 X.a0
    have hd := (htn (delV L2 (.slice av acc.length cv)) (delV_le _ _) (fun g hg => delV_own hg)).1
    have bl3 := hd bl _ (by rw [delV_of (J2.row.owner J2.cl (by decide))]; exact J2.cl)
    have bk3 := hd bk _ (by rw [delV_of (J2.row.owner J2.ck (by decide))]; exact J2.ck)
    have br3 := hd br _ (by rw [delV_of (J2.row.owner J2.rdr (by decide))]; exact J2.rdr)
    refine rw0 rfl rfl rfl rfl rfl rfl hrow3.oneV rfl bl3 (show 0 < 1 by decide) (.inl hNl) ?_; intro L4 ht4 hk4
    have hl'0 : h' bl = none := by rw [hh']; simp
    have X' : FxR F.w0.heap.size k h' bl bk br v' := ⟨X.lk, X.lr, X.kr, X.l0, X.kk0, X.r0, hl'0, by rw [hh']; simp, by rw [hh']; simp, ah3, a03⟩
    have J4 : InR F.w0.heap.size k h' L4 bl bk br a c bs r v' (acc.length + 1) (css.flatten ++ ProdT.cs ⟨x, y, ds⟩ aw cw) :=
      ⟨ht4 k l03 X.l0, turn1_get ht4 (Ne.symm X.lr) br3, hk4, turn1_get ht4 (Ne.symm X.lk) bk3, ht4 h' lh3 hl'0, hrow3.turnY ht4 bl3 (by decide)⟩
    repeat (first | refine rg_nil ?_ | refine eg_in_normal ?_)
    refine eg_again (acc ++ [⟨x, y, ds⟩], r) _ ⟨h', v', css ++ [ProdT.cs ⟨x, y, ds⟩ aw cw], ?_, X', (hP.le hhh).append (Pieces.one hrep), by simp; omega, hrI, by simpa using hRr, rfl⟩ (by simp; omega) ⟨rfl, rfl, rfl, rfl, trivial⟩
    simpa using J4
  have p2' : ds.length ≤ 5 := by have := of_decide_eq_true p2; omega
  rw [didsR_step p1' p2', didR_rest] at hRr
  repeat (first | refine cg_seq ?_ | refine cg_region ?_ | refine eg_then ?_ | refine cg_cond_true rfl ?_ | refine cg_skip ?_ | refine cg_block ?_)
  refine rb rfl rfl rfl rfl (a_alloc rfl) ?_; intro bx L2 hbx hNx hle2 hkx
  have hkx : L2 bx = some (.cells (arr3 []) 115 (0, 0)) := hkx
  have nx1 : bx ≠ bl := fun e => by have := J.cl; rw [← e, hbx] at this; cases this
  have nx2 : bx ≠ bk := fun e => by have := J.ck; rw [← e, hbx] at this; cases this
  have nx3 : bx ≠ br := fun e => by have := J.rdr; unfold Rdr at this; rw [← e, hbx] at this; cases this
  have nx4 : bx ≠ bp := fun e => by rw [← e, hbx] at hbp9; cases hbp9
  have nxv : (Value.slice av acc.length cv).ownBlock ≠ some bx := fun e => by obtain ⟨_, ob, ho⟩ := J.row.block e; rw [hbx] at ho; cases ho
  have nxk : k bx = none := J.le0.none hbx
  have nxh : h bx = none := J.leh.none hbx
  have hRr : R = (restR bs (3 - ([] : List Int).length) [] r).bind fun s => (didsR bs m (6 - (ds.length + 1)) (ds ++ [⟨s.1.getD 0 0, s.1.getD 1 0, s.1.getD 2 0⟩]) s.2).bind G := by
    rw [hRr]; show (((restR bs 3 [] r).bind _).bind _).bind _ = _
    cases restR bs 3 [] r <;> rfl
  generalize hH : (fun s : List Int × Int => (didsR bs m (6 - (ds.length + 1)) (ds ++ [⟨s.1.getD 0 0, s.1.getD 1 0, s.1.getD 2 0⟩]) s.2).bind G) = H at hRr
  repeat (first | refine cg_seq ?_ | refine cg_region ?_ | refine rg_nil ?_ | refine eg_then ?_ | refine qsp ?_ | refine cg_block ?_)
  refine cg_loop (fun (z : List Int × Int) e k' => InR F.w0.heap.size k h k' bl bk br a c bs z.2 (.slice av acc.length cv) acc.length css.flatten ∧ k' bp = some (.cells #[.int .i64 x, .int .i64 y, .slice aw ds.length cw] 51 (0, 0)) ∧ Row F.w0.heap.size k' 101 3 (.slice aw ds.length cw) ds.length (ds.flatMap Did.vs) ∧ k' bx = some (.cells (arr3 z.1) 115 (0, 0)) ∧ z.1.length ≤ 3 ∧ (∀ u ∈ z.1, I64 u) ∧ I64 z.2 ∧ R = (restR bs (3 - z.1.length) z.1 z.2).bind H ∧
      e = [(2, .is (.pointer (some ⟨bl, 0, none⟩))), (3, .is (.pointer (some ⟨bk, 0, none⟩))), (4, .is (.func (.func 157) #[.pointer (some ⟨br, 0, none⟩)] #[])), (5, .is (.int .i64 n)), (6, .is (.pointer (some ⟨bp, 0, none⟩))), (7, .is (.int .i64 m)), (8, .is (.pointer (some ⟨bx, 0, none⟩))), (45, .is (.int .i64 (z.1.length : Int)))])
    (fun z => 3 - z.1.length) ([], r) ⟨J.le hle2, hle2 _ _ hbp9, hw.le hle2, hkx, by simp, by simp, hrI, hRr, rfl⟩ ⟨rfl, rfl, rfl, rfl, rfl, rfl, rfl, rfl, trivial⟩ ?_
  clear hRr hkx hsw hbp9 hw e0 e1 e2 J hle2
  rintro ⟨ns, t⟩ e M ⟨J, hbp9, hw, hkx, hn3, hnI, htI, hRr, rfl⟩
  dsimp only at J hkx hn3 hnI htI hRr ⊢
  repeat (first | refine cg_seq ?_ | refine cg_region ?_ | refine rg_nil ?_ | refine eg_then ?_ | refine qsp ?_)
  refine cg_cond rfl (fun hc => ?_) (fun hc => ?_)
  rotate_left
  · have hn3' : ns.length = 3 := by have := of_decide_eq_false hc; omega
    have : ∃ u0 u1 u2, ns = [u0, u1, u2] := by
      match ns, hn3' with
      | [a, b, c], _ => exact ⟨a, b, c, rfl⟩
    obtain ⟨u0, u1, u2, rfl⟩ := this
    have hRr : R = H ([u0, u1, u2], t) := by simpa [restR] using hRr
    rw [← hH] at hRr
    have hRr : R = (didsR bs m (6 - (ds.length + 1)) (ds ++ [⟨u0, u1, u2⟩]) t).bind G := hRr
    have hI0 := hnI u0 (by simp)
    have hI1 := hnI u1 (by simp)
    have hI2 := hnI u2 (by simp)
    have c3 := cells_at (vs := [.int .i64 u0, .int .i64 u1, .int .i64 u2]) hkx rfl
    have x0 : Cells M bx (0 + 0 * 1) [.int .i64 u0] := c3.one (i := 0) rfl
    have x1 : Cells M bx (0 + 1 * 1) [.int .i64 u1] := c3.one (i := 1) rfl
    have x2 : Cells M bx (0 + 2 * 1) [.int .i64 u2] := c3.one (i := 2) rfl
    have e2 : Cells M bp 2 [.slice aw ds.length cw] := (cells_at (vs := [.int .i64 x, .int .i64 y, .slice aw ds.length cw]) hbp9 rfl).one (i := 2) rfl
    repeat (first | refine cg_region ?_ | refine eg_then ?_ | refine qsl ?_ | refine qsf ?_ | refine cg_exit ?_ | refine eg_then_exit ?_ | refine eg_in_exit ?_)
    refine rs rfl rfl (loc_det rfl (d_idxA (i := 0) rfl rfl rfl (by decide))) ?_
    repeat (first | refine qsl ?_)
    refine rs rfl rfl (loc_det rfl (d_idxA (i := 1) rfl rfl rfl (by decide))) ?_
    repeat (first | refine qsl ?_)
    refine rs rfl rfl (loc_det rfl (d_idxA (i := 2) rfl rfl rfl (by decide))) ?_
    repeat (first | refine qsl ?_)
    refine rs rfl rfl (loc_det rfl (d_lit (cells := Did.vs ⟨u0, u1, u2⟩) rfl rfl rfl)) ?_
    refine rb rfl rfl rfl rfl (a_slice (cells := Did.vs ⟨u0, u1, u2⟩) rfl rfl rfl rfl (by kernel_rfl) rfl) ?_; intro bn M2 hbn hNn hle2 hkn
    refine rap (j := 1) (news := Did.vs ⟨u0, u1, u2⟩) rfl rfl rfl rfl rfl rfl rfl (hw.le hle2) (cells_at hkn rfl) rfl (by simp [Did.vs, Value.oneCell']) (by kernel_rfl) rfl (by unfold maxLen; omega) (by omega) ?_
    rintro w' M3 hw3 htn
    have J2 := J.le hle2
    have J3 := J2.app htn (hw.le hle2) haw hkw
    have hd := (htn (delV M2 (.slice aw ds.length cw)) (delV_le _ _) (fun g hg => delV_own hg)).1
    have bp3 := hd bp _ (by rw [delV_of (hw.owner hbp9 (by decide))]; exact hle2 _ _ hbp9)
    repeat (first | refine qsf ?_)
    refine rw0 rfl rfl rfl rfl rfl rfl hw3.oneV rfl bp3 (show 0 + 2 < 3 by decide) (.inl hNp) ?_; intro M4 ht4 hk4
    have J4 := J3.turn ht4 npv np1 np2 np3 npk nph
    have hw4 := hw3.turnY ht4 bp3 (by decide)
    repeat (first | refine rg_nil ?_ | refine eg_in_normal ?_)
    refine eg_again (ds ++ [⟨u0, u1, u2⟩], t) _ ⟨w', J4, hk4, ?_, (htn h J2.leh haw).2, (htn k J2.le0 hkw).2, ?_, by simp; omega, htI, by simpa using hRr, rfl⟩ (by simp; omega) ⟨rfl, rfl, rfl, rfl, rfl, rfl, trivial⟩
    · rw [List.length_append, List.flatMap_append]; simpa using hw4
    · intro d hd
      rcases List.mem_append.1 hd with hd | hd
      · exact hdok d hd
      · simp at hd; subst hd; exact ⟨hI0, hI1, hI2⟩
  have hlt : ns.length < 3 := by have := of_decide_eq_true hc; omega
  rw [show 3 - ns.length = (3 - (ns.length + 1)) + 1 by omega] at hRr
  simp only [restR] at hRr
  repeat (first | refine cg_seq ?_ | refine cg_region ?_ | refine rg_nil ?_ | refine eg_then ?_ | refine qsp ?_ | refine cg_skip ?_ | refine cg_block ?_)
  cases hx : numR bs t with
  | none =>
    rw [hx] at hRr
    refine rpc rfl rfl rfl rfl rfl (nextBad_cp J.rdr (hs.le J.le0) htI hl hx) ?_
    intro k9 hle9
    repeat (first | refine eg_then_panic ?_ | refine eg_in_panic ?_)
    refine bad _ _ _ _ ?_ ?_ (hle9 _ _ J.cl) (hle9 _ _ J.ck) hRr <;> rfl
  | some xq =>
  obtain ⟨u, t1⟩ := xq
  rw [hx] at hRr; simp only [Option.bind_some] at hRr
  obtain ⟨huI, ht1I⟩ := numR_ok hby hl hx
  refine rcm rfl rfl rfl rfl rfl rfl rfl (nextOk_ctm J.rdr (hs.le J.le0) htI hl hx) (fun b e => .inl (by rw [e]; exact hNr)) ?_
  clear hx
  rintro _ M1 hkeepM1 ⟨rfl, hrM1⟩
  have htM1 : Turn1 _ M1 br := fun h hle hno => hkeepM1 h hle (fun b e => by rw [e]; exact hno)
  have J1 := J.next X htM1 hrM1
  have hbp1 := turn1_get htM1 np3 hbp9
  have hkx1 := turn1_get htM1 nx3 hkx
  skip
  refine rs rfl rfl (loc_det rfl (d_idxA rfl rfl rfl hlt)) ?_
  refine rw0 rfl rfl rfl rfl rfl rfl rfl rfl hkx1 (show 0 + ns.length * 1 < (arr3 ns).size by rw [arr3_size hn3]; omega) (.inl hNx) ?_; intro M2 ht2 hk2
  rw [arr3_set hlt] at hk2
  have J2 := J1.turn ht2 nxv nx1 nx2 nx3 nxk nxh
  have hbp2 := turn1_get ht2 (Ne.symm nx4) hbp1
  have hw2 := (hw.turnY htM1 J.rdr (by decide)).turnY ht2 hkx1 (by decide)
  repeat (first | refine cg_region ?_ | refine rg_nil ?_ | refine eg_then ?_ | refine qsp ?_ | refine qsa ?_ | refine eg_in_normal ?_)
  rw [show ((ns.length : Int) + 1) = (((ns ++ [u]).length : Nat) : Int) by simp]
  refine eg_again (ns ++ [u], t1) _ ⟨J2, hbp2, hw2, hk2, by simp; omega, ?_, ht1I, by simpa using hRr, rfl⟩ (by simp; omega) ⟨rfl, rfl, rfl, rfl, rfl, rfl, rfl, rfl, trivial⟩
  intro z hz
  rcases List.mem_append.1 hz with hz | hz
  · exact hnI z hz
  · simp at hz; subst hz; exact huI
end Go.Wm

/-
  Producers, the document's: loaded. Conditions: that what is handed in reads as data.
-/
import Derived.Test.YtfejamdfhbamcaaG24
import Derived.Test.YtfejamdfhbamcaaG13
import Derived.Test.YtfejamdfhbamcaaG7
import Derived.Test.YtfejamdfhbamcaaG15
import Derived.Laws.BytesArg
set_option linter.all false
namespace Go.Wm
open Go.RowKit Go.Proofs
section
variable {P : Program} {o : Oper} {e : Env} {k : PH}
/-- A text out of bytes. -/
theorem d_bstr {src dst et : TypeId} {x : Operand} {a : Option Addr} {c : Nat} {bs : List Nat} [hs : TyU P src (.slice et)] [he : TyU P et (.int .u8)] [hd : TyU P dst .string] (h : Sl tU8 k a c bs) (hop : o.op = .convert src dst x) (hx : opv e x = some (.slice a bs.length c)) : Det P e k o (.string (strOf bs)) := by
  intro ev w hev hsub
  rw [hop] at hev
  have e1 := hev x (by simp [Op.operands]) _ hx
  have key : (convert src dst (.slice a bs.length c)).run P w = .ok (.string (strOf bs)) w := by
    cases bs with
    | nil =>
      cases a with
      | none =>
        rw [List.length_nil, run_convert_bytes_nil w src et hs.eq he.eq 0 c dst hd.eq]
        rfl
      | some ad =>
        rw [List.length_nil, run_convert_bytes_string w src dst et _ 0 c hs.eq he.eq hd.eq]
        simp [Conv.bytesToString, loadCells, loadCellsFrom, Sem.run_pure]
        rfl
    | cons b bs =>
      obtain ⟨bx, ox, _, rfl, _⟩ := h.el 0 b rfl
      have h2 := run_convert_bytes_arg (P := P) w src et hs.eq he.eq bx ox (b :: bs).length c ((b :: bs).map fun x => ((x : Nat) : Int)) (by simp) (fun i hi => by
        obtain ⟨b', o', c', hb', ⟨rfl, _⟩, hc'⟩ := h.el i (b :: bs)[i] (List.getElem?_eq_getElem hi)
        cases hb'
        have := hc'.cell hsub (i := 0) rfl
        rw [show ox + i * tU8.sz + 0 = ox + i by show ox + i * 1 + 0 = ox + i; omega] at this
        rw [this, List.getD_eq_getElem?_getD, List.getElem?_map, List.getElem?_eq_getElem hi]
        rfl) dst hd.eq
      rw [h2]
      unfold strOfNums strOf
      rw [List.map_map]
      rfl
  simp [execOp, hop, e1, key]
end
theorem strOf_inj {xs ys : List Nat} (hx : Bytes xs) (hy : Bytes ys) : strOf xs = strOf ys ↔ xs = ys := by
  constructor
  · intro h
    have h1 : xs.map (·.toUInt8) = ys.map (·.toUInt8) := by
      have := congrArg (fun b : ByteArray => b.data.toList) h
      simpa [strOf] using this
    have h2 := congrArg (List.map UInt8.toNat) h1
    rw [List.map_map, List.map_map] at h2
    have key : ∀ l : List Nat, Bytes l → l.map (UInt8.toNat ∘ fun x => x.toUInt8) = l := fun l hl => by
      conv => rhs; rw [← List.map_id l]
      apply List.map_congr_left
      intro x hxl
      have := hl x hxl
      show (UInt8.ofNat x).toNat = x
      simp; omega
    rwa [key xs hx, key ys hy] at h2
  · rintro rfl; rfl
theorem prods_next {xs : List Nat} {n q : Int} {acc : List ProdT} (h1 : (acc.length : Int) < n) (h2 : acc.length ≤ 1024) : prodsR xs n (1025 - acc.length) acc q = (numR xs q).bind fun x => (numR xs x.2).bind fun y => (numR xs y.2).bind fun z => (didsR xs z.1 6 [] z.2).bind fun t => prodsR xs n (1025 - (acc.length + 1)) (acc ++ [⟨x.1, y.1, t.1⟩]) t.2 := by
  rw [prodsR_step h1 h2]
  unfold prodR
  simp only [Option.bind_assoc, Option.bind_some]
theorem dids_next {α : Type} {xs : List Nat} {m q : Int} {ds : List Did} (G : List Did × Int → Option α) (h1 : (ds.length : Int) < m) (h2 : ds.length ≤ 5) : (didsR xs m (6 - ds.length) ds q).bind G = (numR xs q).bind fun x => (numR xs x.2).bind fun y => (numR xs y.2).bind fun z => (didsR xs m (6 - (ds.length + 1)) (ds ++ [⟨x.1, y.1, z.1⟩]) z.2).bind G := by
  rw [didsR_step h1 h2]
  unfold didR
  simp only [Option.bind_assoc, Option.bind_some]
theorem refBytesP_ct {k : PH} {a : Option Addr} {c : Nat} {l : List ProdT} (hl : Sl tProdT k a c l) (hck : chkP l = 0) : CT Try.prog 84 #[.slice a l.length c] k (fun k' v => ∃ a' c', v = .slice a' (sealL (prodsL l)).length c' ∧ Sl tU8 k' a' c' (sealL (prodsL l))) := by
  intro w k1 hle hs
  have H : Calls Try.prog 84 #[.slice a l.length c] w _ := refBytesP_ctn hl hck w k1 hle hs
  refine H.mono ?_
  rintro e w' ⟨v, k', h1, h2, h3, h4, h5⟩
  obtain ⟨a', c', e', h6⟩ := BRow.sl h5 (seal_bytes (prodsL_bytes l))
  exact ⟨v, k', h1, h2, h3, h4, a', c', e', h6⟩
attribute [local irreducible] RG CG EG WA Loc Det Alc CT Exit.then Exit.inBlock Code.wp bodyPost
set_option maxRecDepth 100000 in
set_option maxHeartbeats 4000000 in
theorem refLoadPd_ctn {k : PH} {a : Option Addr} {c : Nat} {bs : List Nat} (hsb : Sl tU8 k a c bs) (hl : bs.length ≤ 100000000) : CTN Try.prog 34 #[.slice a bs.length c] k (PutV (loadP bs)) := by
  refine ctn_of_body (l := [_]) Try.func34 rfl Try.ntmps34 (by simp) PutV.mono fun F hF0 hFm => ?_
  have b1 := hsb.cap; have b2 := hsb.max; unfold maxLen at b2
  have hby := sl_bytes hsb
  repeat (first | refine cg_seq ?_ | refine cg_region ?_ | refine rg_nil ?_ | refine eg_then ?_ | refine qsp ?_)
  refine rvn rfl rfl rfl rfl rfl rfl rfl (refOpen_ctn hsb hl) ?_
  rintro N1 k1 v1 hN1 _ hle1 ⟨u1, rfl, hrow1⟩
  obtain ⟨op, hop⟩ : ∃ op, openR bs = op := ⟨_, rfl⟩
  have hld : loadP bs = if op.2 ≠ 0 then ([], op.2) else match readP op.1 with | none => ([], 11) | some l => if chkP l = 0 ∧ sealL (prodsL l) = bs then (l, 0) else ([], 11) := by unfold loadP; rw [hop]; rfl
  have hob : Bytes op.1 ∧ op.1.length ≤ bs.length := by
    rw [← hop]; unfold openR
    split
    · exact ⟨fun x hx => by simp at hx, by simp⟩
    · split
      · exact ⟨fun x hx => hby x (List.mem_of_mem_take hx), by simp⟩
      · exact ⟨fun x hx => by simp at hx, by simp⟩
  rw [hop] at hrow1
  rw [hop]
  obtain ⟨xs, er⟩ := op
  dsimp only at hld hob hrow1 ⊢
  obtain ⟨hbx, hlx⟩ := hob
  have hlx : xs.length ≤ 100000000 := by omega
  have hsb1 := hsb.le hle1
  repeat (first | refine cg_seq ?_ | refine cg_region ?_ | refine rg_nil ?_ | refine eg_then ?_ | refine qsp ?_)
  cases q1 : (er != 0)
  case true =>
    repeat (first | refine cg_seq ?_ | refine cg_region ?_ | refine rg_nil ?_ | refine eg_then ?_ | refine qsp ?_ | refine cg_cond_true rfl ?_ | refine cg_ret ?_ | refine eg_then_ret ?_)
    refine eg_return2 rfl rfl rfl ?_
    rw [hld, if_pos (by simpa using q1)]
    exact ⟨_, rfl, own_nil _ _ _ _⟩
  rw [if_neg (by simpa using q1)] at hld
  obtain ⟨a2, c2, rfl, hs⟩ := hrow1.sl hbx
  obtain ⟨R, hR⟩ : ∃ R, readP xs = R := ⟨_, rfl⟩
  rw [hR] at hld
  repeat (first | refine cg_seq ?_ | refine cg_region ?_ | refine eg_then ?_ | refine qsp ?_ | refine cg_cond_false rfl ?_ | refine cg_skip ?_)
  refine rs rfl rfl (loc_det rfl (d_lit (cells := [.slice a2 xs.length c2, .int .i64 0, .bool false]) rfl rfl rfl)) ?_
  refine rb rfl rfl rfl rfl (a_box rfl rfl) ?_; intro br k2 hbr hNr hle2 hkr
  have X0 : FxL k1 k1 br (.slice none 0 0) := ⟨hbr, hbr, apart_nil _ _ _, apart_nil _ _ _⟩
  have I0 : InL F.w0.heap.size k1 k1 k2 br a2 c2 xs (0, false) (.slice none 0 0) 0 [] := ⟨hle2, hkr, hle2, row_nil _ _ _ _⟩
  have z0 : I64 ((0, false) : Int × Bool).1 := ⟨by decide, by decide⟩
  have hRr : R = if ((0, false) : Int × Bool).2 = true then none else (numR xs ((0, false) : Int × Bool).1).bind fun q => prodsR xs q.1 1025 [] q.2 := by rw [← hR]; rfl
  have X := X0
  repeat (first | refine cg_seq ?_ | refine cg_region ?_ | refine rg_nil ?_ | refine eg_then ?_ | refine qsp ?_)
  refine rcm rfl rfl rfl rfl rfl rfl rfl (number_ctm I0.rdr (hs.le I0.le0) z0 hlx) (fun b e => .inl (by rw [e]; exact hNr)) ?_
  rintro _ k3 hkeep ⟨rfl, hr1⟩
  have htk3 : Turn1 _ k3 br := fun h hle hno => hkeep h hle (fun b e => by rw [e]; exact hno)
  have I3 := I0.next X htk3 hr1
  obtain ⟨hnI, hs0I⟩ := numS_ok (s := (0, false)) hbx hlx z0
  rw [numS_bind] at hRr
  obtain ⟨nx, hnx⟩ : ∃ nx, numS xs (0, false) = nx := ⟨_, rfl⟩
  rw [hnx] at hRr hnI hs0I I3 ⊢
  obtain ⟨n, s0⟩ := nx
  dsimp only at hRr hnI hs0I I3 ⊢
  clear hkeep hr1 hnx
  have hRr : R = if s0.2 = true then none else prodsR xs n (1025 - ([] : List ProdT).length) [] s0.1 := hRr
  clear X htk3 I0
  repeat (first | refine cg_seq ?_ | refine cg_region ?_ | refine rg_nil ?_ | refine eg_then ?_ | refine qsp ?_ | refine cg_block ?_)
  refine cg_loop (fun (x : List ProdT × (Int × Bool)) e k' => ∃ h v css, InL F.w0.heap.size k1 h k' br a2 c2 xs x.2 v x.1.length css.flatten ∧ FxL k1 h br v ∧ Pieces tProdT h css x.1 ∧ x.1.length ≤ 1025 ∧ I64 x.2.1 ∧ (R = if x.2.2 = true then none else prodsR xs n (1025 - x.1.length) x.1 x.2.1) ∧
      e = [(0, .is (.slice a bs.length c)), (6, .is (.pointer (some ⟨br, 0, none⟩))), (7, .is (.int .i64 n)), (8, .is v), (9, .is (.int .i64 (x.1.length : Int)))])
    (fun x => 1025 - x.1.length) ([], s0) ⟨k1, .slice none 0 0, [], I3, X0, Pieces.nil _ _, by simp, hs0I, hRr, rfl⟩ ⟨rfl, rfl, rfl, rfl, rfl, trivial⟩ ?_
  clear hRr X0 I3 hs0I z0
  rintro ⟨acc, s⟩ e K ⟨h, v, css, I, X, hP, hac, hsI, hRr, rfl⟩
  dsimp only at I hP hac hsI hRr ⊢
  obtain ⟨av, cv, rfl, hsv⟩ := Row.sls (T := tProdT) I.row (hP.le I.leh)
  have g1 := hsv.cap; have g2 := hsv.max; unfold maxLen at g2
  have e0 : Cells K br (0 + 2) [.bool s.2] := (cells_at (vs := [.slice a2 xs.length c2, .int .i64 s.1, .bool s.2]) I.rdr rfl).one (i := 2) rfl
  repeat (first | refine cg_seq ?_ | refine cg_region ?_ | refine qsp ?_)
  cases p1 : decide ((acc.length : Int) < n)
  case false =>
    have hno : ¬ ((acc.length : Int) < n ∧ acc.length ≤ 1024) := fun hc => by have := of_decide_eq_false p1; omega
    have hE : R = if s.2 = true then none else some acc := by rw [hRr, prodsR_end hno]
    obtain ⟨qq, bad⟩ := s
    have hsbK := hsb1.le I.le0
    cases bad
    case true =>
      have hE : R = none := hE
      rw [hE] at hld
      repeat (first | refine cg_seq ?_ | refine rg_nil ?_ | refine eg_then ?_ | refine qsp ?_ | refine qso ?_ | refine cg_cond_false rfl ?_ | refine cg_exit ?_ | refine eg_then_exit ?_ | refine eg_in_exit ?_)
      refine cg_any (by kernel_rfl) rfl ?_
      repeat (first | refine qwp ?_ | refine qwl ?_ | refine qwf ?_ | refine qwo ?_ | (refine wn rfl ?_; refine eg_then ?_))
      repeat (first | refine cg_seq ?_ | refine cg_region ?_ | refine rg_nil ?_ | refine eg_then ?_ | refine qsp ?_ | refine cg_cond_true rfl ?_ | refine cg_ret ?_ | refine eg_then_ret ?_)
      refine eg_return2 rfl rfl rfl ?_
      rw [hld]
      exact ⟨_, rfl, own_nil _ _ _ _⟩
    have hE : R = some acc := hE
    rw [hE] at hld
    dsimp only at hld
    by_cases q2 : chkP acc = 0
    rotate_left
    · repeat (first | refine cg_seq ?_ | refine rg_nil ?_ | refine eg_then ?_ | refine qsp ?_ | refine qso ?_ | refine cg_cond_false rfl ?_ | refine cg_exit ?_ | refine eg_then_exit ?_ | refine eg_in_exit ?_)
      refine cg_any (by kernel_rfl) rfl ?_
      repeat (first | refine qwp ?_ | refine qwl ?_ | refine qwf ?_)
      refine ws rfl (loc_call_is rfl rfl rfl rfl (refSeqsCheck_ct hsv)) ?_
      repeat (first | refine qwp ?_)
      rw [show (chkP acc != 0) = true by simpa using q2]
      repeat (first | refine qwp ?_ | refine qwo ?_ | (refine wn rfl ?_; refine eg_then ?_))
      repeat (first | refine cg_seq ?_ | refine cg_region ?_ | refine rg_nil ?_ | refine eg_then ?_ | refine qsp ?_ | refine cg_cond_true rfl ?_ | refine cg_ret ?_ | refine eg_then_ret ?_)
      refine eg_return2 rfl rfl rfl ?_
      rw [hld, if_neg (fun hc => q2 hc.1)]
      exact ⟨_, rfl, own_nil _ _ _ _⟩
    repeat (first | refine cg_seq ?_ | refine rg_nil ?_ | refine eg_then ?_ | refine qsp ?_ | refine qso ?_ | refine cg_cond_false rfl ?_ | refine cg_exit ?_ | refine eg_then_exit ?_ | refine eg_in_exit ?_)
    refine cg_anyn (by kernel_rfl) rfl ?_
    repeat (first | refine qwp ?_ | refine qwl ?_ | refine qwf ?_)
    refine ws rfl (loc_call_is rfl rfl rfl rfl (refSeqsCheck_ct hsv)) ?_
    rw [q2]
    repeat (first | refine qwp ?_)
    refine wv rfl (loc_call rfl rfl rfl rfl (fun k k' v hle ⟨a, c, h1, h2⟩ => ⟨a, c, h1, h2.le hle⟩) (refBytesP_ct hsv q2)) ?_
    refine ws (v := .string (strOf (sealL (prodsL acc)))) rfl (loc_elim 95 rfl (by kernel_rfl) trivial ?_) ?_
    · rintro v k9 hle9 ⟨a', c', rfl, hs9⟩
      exact loc_det rfl (d_bstr hs9 rfl rfl)
    repeat (first | refine qwp ?_)
    refine ws rfl (loc_det rfl (d_bstr hsbK rfl rfl)) ?_
    have hinj := strOf_inj (seal_bytes (prodsL_bytes acc)) hby
    by_cases q3 : sealL (prodsL acc) = bs
    · repeat (first | refine qwp ?_)
      rw [decide_eq_true (hinj.2 q3)]
      skip
      refine wnn ?_
      intro k9 vs hle9 hvs
      clear hvs
      dsimp only [nameE, nameP]
      repeat (first | refine cg_seq ?_ | refine cg_region ?_ | refine rg_nil ?_ | refine eg_then ?_ | refine qsp ?_ | refine cg_cond_false rfl ?_ | refine cg_skip ?_ | refine cg_ret ?_)
      refine eg_return2 rfl rfl rfl ?_
      rw [hld, if_pos ⟨q2, q3⟩]
      exact ⟨_, rfl, css, hP.le (I.leh.trans hle9), I.row.le hle9⟩
    · repeat (first | refine qwp ?_)
      rw [decide_eq_false (fun hc => q3 (hinj.1 hc))]
      skip
      refine wnn ?_
      intro k9 vs hle9 hvs
      clear hvs
      dsimp only [nameE, nameP]
      repeat (first | refine cg_seq ?_ | refine cg_region ?_ | refine rg_nil ?_ | refine eg_then ?_ | refine qsp ?_ | refine cg_cond_true rfl ?_ | refine cg_ret ?_ | refine eg_then_ret ?_)
      refine eg_return2 rfl rfl rfl ?_
      rw [hld, if_neg (fun hc => q3 hc.2)]
      exact ⟨_, rfl, own_nil _ _ _ _⟩
  repeat (first | refine qsp ?_)
  cases p2 : decide ((acc.length : Int) < 1025)
  case false =>
    have hno : ¬ ((acc.length : Int) < n ∧ acc.length ≤ 1024) := fun hc => by have := of_decide_eq_false p2; omega
    have hE : R = if s.2 = true then none else some acc := by rw [hRr, prodsR_end hno]
    obtain ⟨qq, bad⟩ := s
    have hsbK := hsb1.le I.le0
    cases bad
    case true =>
      have hE : R = none := hE
      rw [hE] at hld
      repeat (first | refine cg_seq ?_ | refine rg_nil ?_ | refine eg_then ?_ | refine qsp ?_ | refine qso ?_ | refine cg_cond_false rfl ?_ | refine cg_exit ?_ | refine eg_then_exit ?_ | refine eg_in_exit ?_)
      refine cg_any (by kernel_rfl) rfl ?_
      repeat (first | refine qwp ?_ | refine qwl ?_ | refine qwf ?_ | refine qwo ?_ | (refine wn rfl ?_; refine eg_then ?_))
      repeat (first | refine cg_seq ?_ | refine cg_region ?_ | refine rg_nil ?_ | refine eg_then ?_ | refine qsp ?_ | refine cg_cond_true rfl ?_ | refine cg_ret ?_ | refine eg_then_ret ?_)
      refine eg_return2 rfl rfl rfl ?_
      rw [hld]
      exact ⟨_, rfl, own_nil _ _ _ _⟩
    have hE : R = some acc := hE
    rw [hE] at hld
    dsimp only at hld
    by_cases q2 : chkP acc = 0
    rotate_left
    · repeat (first | refine cg_seq ?_ | refine rg_nil ?_ | refine eg_then ?_ | refine qsp ?_ | refine qso ?_ | refine cg_cond_false rfl ?_ | refine cg_exit ?_ | refine eg_then_exit ?_ | refine eg_in_exit ?_)
      refine cg_any (by kernel_rfl) rfl ?_
      repeat (first | refine qwp ?_ | refine qwl ?_ | refine qwf ?_)
      refine ws rfl (loc_call_is rfl rfl rfl rfl (refSeqsCheck_ct hsv)) ?_
      repeat (first | refine qwp ?_)
      rw [show (chkP acc != 0) = true by simpa using q2]
      repeat (first | refine qwp ?_ | refine qwo ?_ | (refine wn rfl ?_; refine eg_then ?_))
      repeat (first | refine cg_seq ?_ | refine cg_region ?_ | refine rg_nil ?_ | refine eg_then ?_ | refine qsp ?_ | refine cg_cond_true rfl ?_ | refine cg_ret ?_ | refine eg_then_ret ?_)
      refine eg_return2 rfl rfl rfl ?_
      rw [hld, if_neg (fun hc => q2 hc.1)]
      exact ⟨_, rfl, own_nil _ _ _ _⟩
    repeat (first | refine cg_seq ?_ | refine rg_nil ?_ | refine eg_then ?_ | refine qsp ?_ | refine qso ?_ | refine cg_cond_false rfl ?_ | refine cg_exit ?_ | refine eg_then_exit ?_ | refine eg_in_exit ?_)
    refine cg_anyn (by kernel_rfl) rfl ?_
    repeat (first | refine qwp ?_ | refine qwl ?_ | refine qwf ?_)
    refine ws rfl (loc_call_is rfl rfl rfl rfl (refSeqsCheck_ct hsv)) ?_
    rw [q2]
    repeat (first | refine qwp ?_)
    refine wv rfl (loc_call rfl rfl rfl rfl (fun k k' v hle ⟨a, c, h1, h2⟩ => ⟨a, c, h1, h2.le hle⟩) (refBytesP_ct hsv q2)) ?_
    refine ws (v := .string (strOf (sealL (prodsL acc)))) rfl (loc_elim 95 rfl (by kernel_rfl) trivial ?_) ?_
    · rintro v k9 hle9 ⟨a', c', rfl, hs9⟩
      exact loc_det rfl (d_bstr hs9 rfl rfl)
    repeat (first | refine qwp ?_)
    refine ws rfl (loc_det rfl (d_bstr hsbK rfl rfl)) ?_
    have hinj := strOf_inj (seal_bytes (prodsL_bytes acc)) hby
    by_cases q3 : sealL (prodsL acc) = bs
    · repeat (first | refine qwp ?_)
      rw [decide_eq_true (hinj.2 q3)]
      skip
      refine wnn ?_
      intro k9 vs hle9 hvs
      clear hvs
      dsimp only [nameE, nameP]
      repeat (first | refine cg_seq ?_ | refine cg_region ?_ | refine rg_nil ?_ | refine eg_then ?_ | refine qsp ?_ | refine cg_cond_false rfl ?_ | refine cg_skip ?_ | refine cg_ret ?_)
      refine eg_return2 rfl rfl rfl ?_
      rw [hld, if_pos ⟨q2, q3⟩]
      exact ⟨_, rfl, css, hP.le (I.leh.trans hle9), I.row.le hle9⟩
    · repeat (first | refine qwp ?_)
      rw [decide_eq_false (fun hc => q3 (hinj.1 hc))]
      skip
      refine wnn ?_
      intro k9 vs hle9 hvs
      clear hvs
      dsimp only [nameE, nameP]
      repeat (first | refine cg_seq ?_ | refine cg_region ?_ | refine rg_nil ?_ | refine eg_then ?_ | refine qsp ?_ | refine cg_cond_true rfl ?_ | refine cg_ret ?_ | refine eg_then_ret ?_)
      refine eg_return2 rfl rfl rfl ?_
      rw [hld, if_neg (fun hc => q3 hc.2)]
      exact ⟨_, rfl, own_nil _ _ _ _⟩
  have p1' : (acc.length : Int) < n := of_decide_eq_true p1
  have p2' : acc.length ≤ 1024 := by have := of_decide_eq_true p2; omega
  cases hb2 : s.2
  case true =>
    have hE : R = none := by rw [hRr, hb2]; rfl
    rw [hE] at hld
    rw [hb2] at e0
    repeat (first | refine cg_seq ?_ | refine rg_nil ?_ | refine eg_then ?_ | refine qsp ?_ | refine qsl ?_ | refine qsf ?_ | refine cg_cond_false rfl ?_ | refine cg_exit ?_ | refine eg_then_exit ?_ | refine eg_in_exit ?_)
    refine cg_any (by kernel_rfl) rfl ?_
    repeat (first | refine qwp ?_ | refine qwl ?_ | refine qwf ?_ | refine qwo ?_ | (refine wn rfl ?_; refine eg_then ?_))
    repeat (first | refine cg_seq ?_ | refine cg_region ?_ | refine rg_nil ?_ | refine eg_then ?_ | refine qsp ?_ | refine cg_cond_true rfl ?_ | refine cg_ret ?_ | refine eg_then_ret ?_)
    refine eg_return2 rfl rfl rfl ?_
    rw [hld]
    exact ⟨_, rfl, own_nil _ _ _ _⟩
  rw [hb2] at e0
  obtain ⟨q, bad⟩ := s
  dsimp only at hb2
  subst hb2
  have hRr : R = if ((q, false) : Int × Bool).2 = true then none else (numR xs ((q, false) : Int × Bool).1).bind fun x => (numR xs x.2).bind fun y => (numR xs y.2).bind fun z => (didsR xs z.1 6 [] z.2).bind fun t => prodsR xs n (1025 - (acc.length + 1)) (acc ++ [⟨x.1, y.1, t.1⟩]) t.2 := by
    rw [hRr, prods_next p1' p2']
  repeat (first | refine cg_seq ?_ | refine cg_region ?_ | refine rg_nil ?_ | refine eg_then ?_ | refine qsp ?_ | refine qsl ?_ | refine qsf ?_ | refine cg_cond_true rfl ?_ | refine cg_skip ?_ | refine cg_block ?_)
  clear e0
  refine rcm rfl rfl rfl rfl rfl rfl rfl (number_ctm I.rdr (hs.le I.le0) hsI hlx) (fun b e => .inl (by rw [e]; exact hNr)) ?_
  rintro _ K1 hkeep ⟨rfl, hr1⟩
  have htK1 : Turn1 _ K1 br := fun h hle hno => hkeep h hle (fun b e => by rw [e]; exact hno)
  have I1 := I.next X htK1 hr1
  obtain ⟨hxI, hs1I⟩ := numS_ok (s := (q, false)) hbx hlx hsI
  rw [numS_bind] at hRr
  obtain ⟨nx, hnx⟩ : ∃ nx, numS xs (q, false) = nx := ⟨_, rfl⟩
  rw [hnx] at hRr hxI hs1I I1 ⊢
  obtain ⟨x, s1⟩ := nx
  dsimp only at hRr hxI hs1I I1 ⊢
  clear hkeep hr1 hnx
  repeat (first | refine qsp ?_)
  refine rcm rfl rfl rfl rfl rfl rfl rfl (number_ctm I1.rdr (hs.le I1.le0) hs1I hlx) (fun b e => .inl (by rw [e]; exact hNr)) ?_
  rintro _ K2 hkeep ⟨rfl, hr1⟩
  have htK2 : Turn1 _ K2 br := fun h hle hno => hkeep h hle (fun b e => by rw [e]; exact hno)
  have I2 := I1.next X htK2 hr1
  obtain ⟨hyI, hs2I⟩ := numS_ok (s := s1) hbx hlx hs1I
  rw [numS_bind] at hRr
  obtain ⟨nx, hnx⟩ : ∃ nx, numS xs s1 = nx := ⟨_, rfl⟩
  rw [hnx] at hRr hyI hs2I I2 ⊢
  obtain ⟨y, s2⟩ := nx
  dsimp only at hRr hyI hs2I I2 ⊢
  clear hkeep hr1 hnx
  skip
  refine rs rfl rfl (loc_det rfl (d_lit (cells := ProdT.cs ⟨x, y, []⟩ none 0) rfl rfl rfl)) ?_
  refine rb rfl rfl rfl rfl (a_alloc rfl) ?_; intro bp K3 hbp hNp hle3 hk3
  refine rw1 (vs := ProdT.cs ⟨x, y, []⟩ none 0) rfl rfl rfl rfl rfl rfl rfl hk3 rfl (.inl hNp) ?_ ?_
  · simp [ProdT.cs, Value.oneCell']
  intro K4 ht4 hk4
  have np3 : bp ≠ br := fun e => by have := I2.rdr; unfold RdL at this; rw [← e, hbp] at this; cases this
  have npv : (Value.slice av acc.length cv).ownBlock ≠ some bp := fun e => by obtain ⟨_, ob, ho⟩ := I2.row.block e; rw [hbp] at ho; cases ho
  have npk : k1 bp = none := I2.le0.none hbp
  have nph : h bp = none := I2.leh.none hbp
  have I4 := (I2.le hle3).turn ht4 npv np3 npk nph
  have hk4 : K4 bp = some (.cells #[.int .i64 x, .int .i64 y, .slice none 0 0] 51 (0, 0)) := hk4
  clear ht4 hle3 hk3 I1 htK1 htK2
  repeat (first | refine cg_seq ?_ | refine cg_region ?_ | refine rg_nil ?_ | refine eg_then ?_ | refine qsp ?_)
  refine rcm rfl rfl rfl rfl rfl rfl rfl (number_ctm I4.rdr (hs.le I4.le0) hs2I hlx) (fun b e => .inl (by rw [e]; exact hNr)) ?_
  rintro _ K5 hkeep ⟨rfl, hr1⟩
  have htK5 : Turn1 _ K5 br := fun h hle hno => hkeep h hle (fun b e => by rw [e]; exact hno)
  have I5 := I4.next X htK5 hr1
  obtain ⟨hmI, hs3I⟩ := numS_ok (s := s2) hbx hlx hs2I
  rw [numS_bind] at hRr
  obtain ⟨nx, hnx⟩ : ∃ nx, numS xs s2 = nx := ⟨_, rfl⟩
  rw [hnx] at hRr hmI hs3I I5 ⊢
  obtain ⟨m, s3⟩ := nx
  dsimp only at hRr hmI hs3I I5 ⊢
  clear hkeep hr1 hnx
  have hk5 := turn1_get htK5 np3 hk4
  generalize hG : (fun t : List Did × Int => prodsR xs n (1025 - (acc.length + 1)) (acc ++ [⟨x, y, t.1⟩]) t.2) = G at hRr
  repeat (first | refine cg_seq ?_ | refine cg_region ?_ | refine rg_nil ?_ | refine eg_then ?_ | refine qsp ?_ | refine cg_block ?_)
  refine cg_loop (fun (z : List Did × (Int × Bool)) e k' => ∃ w, InL F.w0.heap.size k1 h k' br a2 c2 xs z.2 (.slice av acc.length cv) acc.length css.flatten ∧ k' bp = some (.cells #[.int .i64 x, .int .i64 y, w] 51 (0, 0)) ∧ Row F.w0.heap.size k' 101 3 w z.1.length (z.1.flatMap Did.vs) ∧ Apart h w ∧ Apart k1 w ∧ (∀ d ∈ z.1, d.ok) ∧ z.1.length ≤ 6 ∧ I64 z.2.1 ∧ (R = if z.2.2 = true then none else (didsR xs m (6 - z.1.length) z.1 z.2.1).bind G) ∧
      e = [(0, .is (.slice a bs.length c)), (6, .is (.pointer (some ⟨br, 0, none⟩))), (7, .is (.int .i64 n)), (8, .is (.slice av acc.length cv)), (9, .is (.int .i64 (acc.length : Int))), (10, .is (.pointer (some ⟨bp, 0, none⟩))), (11, .is (.int .i64 m)), (12, .is (.int .i64 (z.1.length : Int)))])
    (fun z => 6 - z.1.length) ([], s3) ⟨.slice none 0 0, I5, hk5, row_nil _ _ _ _, apart_nil _ _ _, apart_nil _ _ _, by simp, by simp, hs3I, hRr, rfl⟩ ⟨rfl, rfl, rfl, rfl, rfl, rfl, rfl, rfl, trivial⟩ ?_
  clear hRr I5 hk5 hk4 I4 htK5 hs3I hs2I hs1I
  rintro ⟨ds, r⟩ e L ⟨w, J, hbp9, hw, haw, hkw, hdok, hd6, hrI, hRr, rfl⟩
  dsimp only at J hw hdok hd6 hrI hRr ⊢
  obtain ⟨aw, cw, rfl, hsw⟩ := Row.sl (T := tDid) (f := Did.vs) hw (fun d hd => ⟨rfl, hdok d hd⟩)
  have d1 := hsw.cap; have d2 := hsw.max; unfold maxLen at d2
  have e0 : Cells L br (0 + 2) [.bool r.2] := (cells_at (vs := [.slice a2 xs.length c2, .int .i64 r.1, .bool r.2]) J.rdr rfl).one (i := 2) rfl
  repeat (first | refine cg_seq ?_ | refine cg_region ?_ | refine qsp ?_)
  cases w1 : decide ((ds.length : Int) < m)
  case false =>
    have hno : ¬ ((ds.length : Int) < m ∧ ds.length ≤ 5) := fun hc => by have := of_decide_eq_false w1; omega
    have hRr : R = if r.2 = true then none else G (ds, r.1) := by rw [hRr, didsR_end hno]; rfl
    repeat (first | refine cg_region ?_ | refine rg_nil ?_ | refine eg_then ?_ | refine qsp ?_ | refine qso ?_ | refine cg_cond_false rfl ?_ | refine cg_exit ?_ | refine eg_then_exit ?_ | refine eg_in_exit ?_)
    rw [← hG] at hRr
    dsimp only at hRr
    clear e0
    have cbp := cells_at (vs := ProdT.cs ⟨x, y, ds⟩ aw cw) hbp9 rfl
    repeat (first | refine qsg ?_)
    refine rb rfl rfl rfl rfl (a_slice (cells := ProdT.cs ⟨x, y, ds⟩ aw cw) rfl rfl rfl rfl (by kernel_rfl) rfl) ?_; intro bn M2 hbn hNn hleM hkn
    refine rap (j := 1) (news := ProdT.cs ⟨x, y, ds⟩ aw cw) rfl rfl rfl rfl rfl rfl rfl (J.row.le hleM) (cells_at hkn rfl) rfl (by simp [ProdT.cs, Value.oneCell']) (by kernel_rfl) rfl (by unfold maxLen; omega) (by omega) ?_
    rintro v' M3 hrow3 htn
    have J2 := J.le hleM
    obtain ⟨h', hh'⟩ : ∃ h' : PH, h' = fun b => if b = br ∨ (Value.slice av acc.length cv).ownBlock = some b then none else L b := ⟨_, rfl⟩
    have hle' : Le h' L := fun b ob hb => by
      rw [hh'] at hb; dsimp only at hb
      split at hb
      · cases hb
      · exact hb
    have hap' : Apart h' (.slice av acc.length cv) := fun g hg => by rw [hh']; simp only [hg, or_true, if_true]
    have hhh : Le h h' := fun b ob hb => by
      have e2 : b ≠ br := fun e => by rw [e, X.hr] at hb; cases hb
      have e3 : (Value.slice av acc.length cv).ownBlock ≠ some b := fun e => by rw [X.ap b e] at hb; cases hb
      rw [hh']; dsimp only; rw [if_neg (by simp only [e2, e3, or_self, not_false_eq_true])]; exact J.leh b ob hb
    have hwh : Row F.w0.heap.size h' 101 3 (.slice aw ds.length cw) ds.length (ds.flatMap Did.vs) := hw.at fun g hg => by
      have e2 : g ≠ br := fun e => hw.owner J.rdr (by decide) (by rw [← e]; exact hg)
      have e3 : (Value.slice av acc.length cv).ownBlock ≠ some g := hw.two J.row (by decide) hg
      rw [hh']; dsimp only; rw [if_neg (by simp only [e2, e3, or_self, not_false_eq_true])]
    obtain ⟨_, _, ew, hsh⟩ := Row.sl (T := tDid) (f := Did.vs) hwh (fun d hd => ⟨rfl, hdok d hd⟩)
    cases ew
    have hrep : tProdT.rep h' (ProdT.cs ⟨x, y, ds⟩ aw cw) ⟨x, y, ds⟩ := ⟨aw, cw, rfl, hsh, hxI, hyI, trivial⟩
    obtain ⟨lh3, ah3⟩ := htn h' (hle'.trans hleM) hap'
    obtain ⟨l03, a03⟩ := htn k1 J2.le0 X.a0
    have hd := (htn (delV M2 (.slice av acc.length cv)) (delV_le _ _) (fun g hg => delV_own hg)).1
    have br3 := hd br _ (by rw [delV_of (J2.row.owner J2.rdr (by decide))]; exact J2.rdr)
    have X' : FxL k1 h' br v' := ⟨X.r0, by rw [hh']; simp, ah3, a03⟩
    have J4 : InL F.w0.heap.size k1 h' M3 br a2 c2 xs r v' (acc.length + 1) (css.flatten ++ ProdT.cs ⟨x, y, ds⟩ aw cw) := ⟨l03, br3, lh3, hrow3⟩
    repeat (first | refine cg_region ?_ | refine rg_nil ?_ | refine eg_then ?_ | refine qsp ?_ | refine qsa ?_ | refine eg_in_normal ?_)
    rw [show ((acc.length : Int) + 1) = (((acc ++ [(⟨x, y, ds⟩ : ProdT)]).length : Nat) : Int) by simp]
    refine eg_again (acc ++ [⟨x, y, ds⟩], r) _ ⟨h', v', css ++ [ProdT.cs ⟨x, y, ds⟩ aw cw], ?_, X', (hP.le hhh).append (Pieces.one hrep), by simp; omega, hrI, by rw [hRr]; simp, rfl⟩ (by simp; omega) ⟨rfl, rfl, rfl, rfl, rfl, trivial⟩
    simpa using J4
  repeat (first | refine qsp ?_)
  cases w2 : decide ((ds.length : Int) < 6)
  case false =>
    have hno : ¬ ((ds.length : Int) < m ∧ ds.length ≤ 5) := fun hc => by have := of_decide_eq_false w2; omega
    have hRr : R = if r.2 = true then none else G (ds, r.1) := by rw [hRr, didsR_end hno]; rfl
    repeat (first | refine cg_region ?_ | refine rg_nil ?_ | refine eg_then ?_ | refine qsp ?_ | refine qso ?_ | refine cg_cond_false rfl ?_ | refine cg_exit ?_ | refine eg_then_exit ?_ | refine eg_in_exit ?_)
    rw [← hG] at hRr
    dsimp only at hRr
    clear e0
    have cbp := cells_at (vs := ProdT.cs ⟨x, y, ds⟩ aw cw) hbp9 rfl
    repeat (first | refine qsg ?_)
    refine rb rfl rfl rfl rfl (a_slice (cells := ProdT.cs ⟨x, y, ds⟩ aw cw) rfl rfl rfl rfl (by kernel_rfl) rfl) ?_; intro bn M2 hbn hNn hleM hkn
    refine rap (j := 1) (news := ProdT.cs ⟨x, y, ds⟩ aw cw) rfl rfl rfl rfl rfl rfl rfl (J.row.le hleM) (cells_at hkn rfl) rfl (by simp [ProdT.cs, Value.oneCell']) (by kernel_rfl) rfl (by unfold maxLen; omega) (by omega) ?_
    rintro v' M3 hrow3 htn
    have J2 := J.le hleM
    obtain ⟨h', hh'⟩ : ∃ h' : PH, h' = fun b => if b = br ∨ (Value.slice av acc.length cv).ownBlock = some b then none else L b := ⟨_, rfl⟩
    have hle' : Le h' L := fun b ob hb => by
      rw [hh'] at hb; dsimp only at hb
      split at hb
      · cases hb
      · exact hb
    have hap' : Apart h' (.slice av acc.length cv) := fun g hg => by rw [hh']; simp only [hg, or_true, if_true]
    have hhh : Le h h' := fun b ob hb => by
      have e2 : b ≠ br := fun e => by rw [e, X.hr] at hb; cases hb
      have e3 : (Value.slice av acc.length cv).ownBlock ≠ some b := fun e => by rw [X.ap b e] at hb; cases hb
      rw [hh']; dsimp only; rw [if_neg (by simp only [e2, e3, or_self, not_false_eq_true])]; exact J.leh b ob hb
    have hwh : Row F.w0.heap.size h' 101 3 (.slice aw ds.length cw) ds.length (ds.flatMap Did.vs) := hw.at fun g hg => by
      have e2 : g ≠ br := fun e => hw.owner J.rdr (by decide) (by rw [← e]; exact hg)
      have e3 : (Value.slice av acc.length cv).ownBlock ≠ some g := hw.two J.row (by decide) hg
      rw [hh']; dsimp only; rw [if_neg (by simp only [e2, e3, or_self, not_false_eq_true])]
    obtain ⟨_, _, ew, hsh⟩ := Row.sl (T := tDid) (f := Did.vs) hwh (fun d hd => ⟨rfl, hdok d hd⟩)
    cases ew
    have hrep : tProdT.rep h' (ProdT.cs ⟨x, y, ds⟩ aw cw) ⟨x, y, ds⟩ := ⟨aw, cw, rfl, hsh, hxI, hyI, trivial⟩
    obtain ⟨lh3, ah3⟩ := htn h' (hle'.trans hleM) hap'
    obtain ⟨l03, a03⟩ := htn k1 J2.le0 X.a0
    have hd := (htn (delV M2 (.slice av acc.length cv)) (delV_le _ _) (fun g hg => delV_own hg)).1
    have br3 := hd br _ (by rw [delV_of (J2.row.owner J2.rdr (by decide))]; exact J2.rdr)
    have X' : FxL k1 h' br v' := ⟨X.r0, by rw [hh']; simp, ah3, a03⟩
    have J4 : InL F.w0.heap.size k1 h' M3 br a2 c2 xs r v' (acc.length + 1) (css.flatten ++ ProdT.cs ⟨x, y, ds⟩ aw cw) := ⟨l03, br3, lh3, hrow3⟩
    repeat (first | refine cg_region ?_ | refine rg_nil ?_ | refine eg_then ?_ | refine qsp ?_ | refine qsa ?_ | refine eg_in_normal ?_)
    rw [show ((acc.length : Int) + 1) = (((acc ++ [(⟨x, y, ds⟩ : ProdT)]).length : Nat) : Int) by simp]
    refine eg_again (acc ++ [⟨x, y, ds⟩], r) _ ⟨h', v', css ++ [ProdT.cs ⟨x, y, ds⟩ aw cw], ?_, X', (hP.le hhh).append (Pieces.one hrep), by simp; omega, hrI, by rw [hRr]; simp, rfl⟩ (by simp; omega) ⟨rfl, rfl, rfl, rfl, rfl, trivial⟩
    simpa using J4
  have w1' : (ds.length : Int) < m := of_decide_eq_true w1
  have w2' : ds.length ≤ 5 := by have := of_decide_eq_true w2; omega
  repeat (first | refine rg_nil ?_ | refine eg_then ?_ | refine qsp ?_ | refine qsl ?_ | refine qsf ?_)
  cases hb3 : r.2
  case true =>
    have hRr : R = if r.2 = true then none else G (ds, r.1) := by rw [hRr, hb3]; rfl
    repeat (first | refine cg_region ?_ | refine eg_then ?_ | refine qsp ?_ | refine cg_cond_false rfl ?_ | refine cg_exit ?_ | refine eg_then_exit ?_ | refine eg_in_exit ?_)
    rw [← hG] at hRr
    dsimp only at hRr
    clear e0
    have cbp := cells_at (vs := ProdT.cs ⟨x, y, ds⟩ aw cw) hbp9 rfl
    repeat (first | refine qsg ?_)
    refine rb rfl rfl rfl rfl (a_slice (cells := ProdT.cs ⟨x, y, ds⟩ aw cw) rfl rfl rfl rfl (by kernel_rfl) rfl) ?_; intro bn M2 hbn hNn hleM hkn
    refine rap (j := 1) (news := ProdT.cs ⟨x, y, ds⟩ aw cw) rfl rfl rfl rfl rfl rfl rfl (J.row.le hleM) (cells_at hkn rfl) rfl (by simp [ProdT.cs, Value.oneCell']) (by kernel_rfl) rfl (by unfold maxLen; omega) (by omega) ?_
    rintro v' M3 hrow3 htn
    have J2 := J.le hleM
    obtain ⟨h', hh'⟩ : ∃ h' : PH, h' = fun b => if b = br ∨ (Value.slice av acc.length cv).ownBlock = some b then none else L b := ⟨_, rfl⟩
    have hle' : Le h' L := fun b ob hb => by
      rw [hh'] at hb; dsimp only at hb
      split at hb
      · cases hb
      · exact hb
    have hap' : Apart h' (.slice av acc.length cv) := fun g hg => by rw [hh']; simp only [hg, or_true, if_true]
    have hhh : Le h h' := fun b ob hb => by
      have e2 : b ≠ br := fun e => by rw [e, X.hr] at hb; cases hb
      have e3 : (Value.slice av acc.length cv).ownBlock ≠ some b := fun e => by rw [X.ap b e] at hb; cases hb
      rw [hh']; dsimp only; rw [if_neg (by simp only [e2, e3, or_self, not_false_eq_true])]; exact J.leh b ob hb
    have hwh : Row F.w0.heap.size h' 101 3 (.slice aw ds.length cw) ds.length (ds.flatMap Did.vs) := hw.at fun g hg => by
      have e2 : g ≠ br := fun e => hw.owner J.rdr (by decide) (by rw [← e]; exact hg)
      have e3 : (Value.slice av acc.length cv).ownBlock ≠ some g := hw.two J.row (by decide) hg
      rw [hh']; dsimp only; rw [if_neg (by simp only [e2, e3, or_self, not_false_eq_true])]
    obtain ⟨_, _, ew, hsh⟩ := Row.sl (T := tDid) (f := Did.vs) hwh (fun d hd => ⟨rfl, hdok d hd⟩)
    cases ew
    have hrep : tProdT.rep h' (ProdT.cs ⟨x, y, ds⟩ aw cw) ⟨x, y, ds⟩ := ⟨aw, cw, rfl, hsh, hxI, hyI, trivial⟩
    obtain ⟨lh3, ah3⟩ := htn h' (hle'.trans hleM) hap'
    obtain ⟨l03, a03⟩ := htn k1 J2.le0 X.a0
    have hd := (htn (delV M2 (.slice av acc.length cv)) (delV_le _ _) (fun g hg => delV_own hg)).1
    have br3 := hd br _ (by rw [delV_of (J2.row.owner J2.rdr (by decide))]; exact J2.rdr)
    have X' : FxL k1 h' br v' := ⟨X.r0, by rw [hh']; simp, ah3, a03⟩
    have J4 : InL F.w0.heap.size k1 h' M3 br a2 c2 xs r v' (acc.length + 1) (css.flatten ++ ProdT.cs ⟨x, y, ds⟩ aw cw) := ⟨l03, br3, lh3, hrow3⟩
    repeat (first | refine cg_region ?_ | refine rg_nil ?_ | refine eg_then ?_ | refine qsp ?_ | refine qsa ?_ | refine eg_in_normal ?_)
    rw [show ((acc.length : Int) + 1) = (((acc ++ [(⟨x, y, ds⟩ : ProdT)]).length : Nat) : Int) by simp]
    refine eg_again (acc ++ [⟨x, y, ds⟩], r) _ ⟨h', v', css ++ [ProdT.cs ⟨x, y, ds⟩ aw cw], ?_, X', (hP.le hhh).append (Pieces.one hrep), by simp; omega, hrI, by rw [hRr]; simp, rfl⟩ (by simp; omega) ⟨rfl, rfl, rfl, rfl, rfl, trivial⟩
    simpa using J4
  rw [hb3] at e0
  obtain ⟨q', bad⟩ := r
  dsimp only at hb3
  subst hb3
  have hRr : R = if ((q', false) : Int × Bool).2 = true then none else (numR xs ((q', false) : Int × Bool).1).bind fun x => (numR xs x.2).bind fun y => (numR xs y.2).bind fun z => (didsR xs m (6 - (ds.length + 1)) (ds ++ [⟨x.1, y.1, z.1⟩]) z.2).bind G := by
    rw [hRr, dids_next G w1' w2']
  repeat (first | refine cg_seq ?_ | refine cg_region ?_ | refine eg_then ?_ | refine qsp ?_ | refine cg_cond_true rfl ?_ | refine cg_skip ?_ | refine cg_block ?_)
  clear e0
  refine rcm rfl rfl rfl rfl rfl rfl rfl (number_ctm J.rdr (hs.le J.le0) hrI hlx) (fun b e => .inl (by rw [e]; exact hNr)) ?_
  rintro _ L1 hkeep ⟨rfl, hr1⟩
  have htL1 : Turn1 _ L1 br := fun h hle hno => hkeep h hle (fun b e => by rw [e]; exact hno)
  have J1 := J.next X htL1 hr1
  obtain ⟨huI, hr1I⟩ := numS_ok (s := (q', false)) hbx hlx hrI
  rw [numS_bind] at hRr
  obtain ⟨nx, hnx⟩ : ∃ nx, numS xs (q', false) = nx := ⟨_, rfl⟩
  rw [hnx] at hRr huI hr1I J1 ⊢
  obtain ⟨u, r1⟩ := nx
  dsimp only at hRr huI hr1I J1 ⊢
  clear hkeep hr1 hnx
  repeat (first | refine qsp ?_)
  refine rcm rfl rfl rfl rfl rfl rfl rfl (number_ctm J1.rdr (hs.le J1.le0) hr1I hlx) (fun b e => .inl (by rw [e]; exact hNr)) ?_
  rintro _ L2 hkeep ⟨rfl, hr1⟩
  have htL2 : Turn1 _ L2 br := fun h hle hno => hkeep h hle (fun b e => by rw [e]; exact hno)
  have J2 := J1.next X htL2 hr1
  obtain ⟨hvI, hr2I⟩ := numS_ok (s := r1) hbx hlx hr1I
  rw [numS_bind] at hRr
  obtain ⟨nx, hnx⟩ : ∃ nx, numS xs r1 = nx := ⟨_, rfl⟩
  rw [hnx] at hRr hvI hr2I J2 ⊢
  obtain ⟨v, r2⟩ := nx
  dsimp only at hRr hvI hr2I J2 ⊢
  clear hkeep hr1 hnx
  skip
  refine rs rfl rfl (loc_det rfl (d_lit (cells := Did.vs ⟨u, v, 0⟩) rfl rfl rfl)) ?_
  refine rb rfl rfl rfl rfl (a_alloc rfl) ?_; intro bd L3 hbd hNd hle3 hk3
  refine rw1 (vs := Did.vs ⟨u, v, 0⟩) rfl rfl rfl rfl rfl rfl rfl hk3 rfl (.inl hNd) ?_ ?_
  · simp [Did.vs, Value.oneCell']
  intro L4 ht4 hk4
  have hbp2 := turn1_get htL2 np3 (turn1_get htL1 np3 hbp9)
  have hw2 := (hw.turnY htL1 J.rdr (by decide)).turnY htL2 J1.rdr (by decide)
  have nd3 : bd ≠ br := fun e => by have := J2.rdr; unfold RdL at this; rw [← e, hbd] at this; cases this
  have ndp : bd ≠ bp := fun e => by rw [← e, hbd] at hbp2; cases hbp2
  have ndv : (Value.slice av acc.length cv).ownBlock ≠ some bd := fun e => by obtain ⟨_, ob, ho⟩ := J2.row.block e; rw [hbd] at ho; cases ho
  have ndw : (Value.slice aw ds.length cw).ownBlock ≠ some bd := fun e => by obtain ⟨_, ob, ho⟩ := hw2.block e; rw [hbd] at ho; cases ho
  have ndk : k1 bd = none := J2.le0.none hbd
  have ndh : h bd = none := J2.leh.none hbd
  have J4 := (J2.le hle3).turn ht4 ndv nd3 ndk ndh
  have hbp4 := turn1_get ht4 (Ne.symm ndp) (hle3 _ _ hbp2)
  have rowAt : ∀ {P P' : PH} {b : Nat}, Turn1 P P' b → (Value.slice aw ds.length cw).ownBlock ≠ some b → Row F.w0.heap.size P 101 3 (.slice aw ds.length cw) ds.length (ds.flatMap Did.vs) → Row F.w0.heap.size P' 101 3 (.slice aw ds.length cw) ds.length (ds.flatMap Did.vs) := fun ht hv hr => hr.at fun g hg => by
    obtain ⟨_, ob, ho⟩ := hr.block hg
    rw [ho]
    exact turn1_get ht (fun e => hv (by rw [← e]; exact hg)) ho
  have hw4 := rowAt ht4 ndw (hw2.le hle3)
  have hk4 : L4 bd = some (.cells #[.int .i64 u, .int .i64 v, .int .i64 0] 101 (0, 0)) := hk4
  clear ht4 hk3 hle3
  repeat (first | refine cg_seq ?_ | refine cg_region ?_ | refine rg_nil ?_ | refine eg_then ?_ | refine qsp ?_)
  refine rcm rfl rfl rfl rfl rfl rfl rfl (number_ctm J4.rdr (hs.le J4.le0) hr2I hlx) (fun b e => .inl (by rw [e]; exact hNr)) ?_
  rintro _ L5 hkeep ⟨rfl, hr1⟩
  have htL5 : Turn1 _ L5 br := fun h hle hno => hkeep h hle (fun b e => by rw [e]; exact hno)
  have J5 := J4.next X htL5 hr1
  obtain ⟨htI, hr3I⟩ := numS_ok (s := r2) hbx hlx hr2I
  rw [numS_bind] at hRr
  obtain ⟨nx, hnx⟩ : ∃ nx, numS xs r2 = nx := ⟨_, rfl⟩
  rw [hnx] at hRr htI hr3I J5 ⊢
  obtain ⟨t, r3⟩ := nx
  dsimp only at hRr htI hr3I J5 ⊢
  clear hkeep hr1 hnx
  have hbp5 := turn1_get htL5 np3 hbp4
  have hw5 := hw4.turnY htL5 J4.rdr (by decide)
  have hk5 := turn1_get htL5 nd3 hk4
  repeat (first | refine qsf ?_)
  refine rw0 rfl rfl rfl rfl rfl rfl rfl rfl hk5 (show 0 + 2 < 3 by decide) (.inl hNd) ?_; intro L6 ht6 hk6
  have hk6 : L6 bd = some (.cells (Did.vs ⟨u, v, t⟩).toArray 101 (0, 0)) := hk6
  have J6 := J5.turn ht6 ndv nd3 ndk ndh
  have hbp6 := turn1_get ht6 (Ne.symm ndp) hbp5
  have hw6 := rowAt ht6 ndw hw5
  have e2 : Cells L6 bp (0 + 2) [.slice aw ds.length cw] := (cells_at (vs := [.int .i64 x, .int .i64 y, .slice aw ds.length cw]) hbp6 rfl).one (i := 2) rfl
  have cbd := cells_at (vs := Did.vs ⟨u, v, t⟩) hk6 rfl
  repeat (first | refine cg_region ?_ | refine rg_nil ?_ | refine eg_then ?_ | refine qsl ?_ | refine qsg ?_ | refine qsf ?_)
  refine rb rfl rfl rfl rfl (a_slice (cells := Did.vs ⟨u, v, t⟩) rfl rfl rfl rfl (by kernel_rfl) rfl) ?_; intro bn M2 hbn hNn hleM hkn
  refine rap (j := 1) (news := Did.vs ⟨u, v, t⟩) rfl rfl rfl rfl rfl rfl rfl (hw6.le hleM) (cells_at hkn rfl) rfl (by simp [Did.vs, Value.oneCell']) (by kernel_rfl) rfl (by unfold maxLen; omega) (by omega) ?_
  rintro w' M3 hw3 htn
  have J7 := J6.le hleM
  have J8 := J7.app htn (hw6.le hleM) haw hkw
  have hd := (htn (delV M2 (.slice aw ds.length cw)) (delV_le _ _) (fun g hg => delV_own hg)).1
  have bp3 := hd bp _ (by rw [delV_of (hw6.owner hbp6 (by decide))]; exact hleM _ _ hbp6)
  repeat (first | refine qsf ?_)
  refine rw0 rfl rfl rfl rfl rfl rfl hw3.oneV rfl bp3 (show 0 + 2 < 3 by decide) (.inl hNp) ?_; intro M4 htM4 hkM4
  have J9 := J8.turn htM4 npv np3 npk nph
  have hw4' := hw3.turnY htM4 bp3 (by decide)
  repeat (first | refine cg_region ?_ | refine rg_nil ?_ | refine eg_then ?_ | refine qsp ?_ | refine qsa ?_ | refine eg_in_normal ?_)
  rw [show ((ds.length : Int) + 1) = (((ds ++ [(⟨u, v, t⟩ : Did)]).length : Nat) : Int) by simp]
  refine eg_again (ds ++ [⟨u, v, t⟩], r3) _ ⟨w', J9, hkM4, ?_, (htn h J7.leh haw).2, (htn k1 J7.le0 hkw).2, ?_, by simp; omega, hr3I, by rw [hRr]; simp, rfl⟩ (by simp; omega) ⟨rfl, rfl, rfl, rfl, rfl, rfl, rfl, rfl, trivial⟩
  · rw [List.length_append, List.flatMap_append]; simpa using hw4'
  · intro d hd
    rcases List.mem_append.1 hd with hd | hd
    · exact hdok d hd
    · simp at hd; subst hd; exact ⟨huI, hvI, htI⟩
end Go.Wm

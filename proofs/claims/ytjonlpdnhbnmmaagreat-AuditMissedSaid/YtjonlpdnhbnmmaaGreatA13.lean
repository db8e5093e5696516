/-
  The places of transactions, the program's. Conditions: that what is handed in reads as data.
-/
import Derived.Test.YtjonlpdnhbnmmaaGreatD1
set_option linter.all false
namespace Go.Wm
open Go.RowKit Go.Proofs
attribute [local irreducible] RG CG EG WA Loc Det Alc CT Exit.then Exit.inBlock Code.wp bodyPost

/-- What a caller knows of places. -/
structure PlsRes (N : Nat) (k : PH) (r : Nat) (D : List PD) : Prop where
  N_le : N ≤ r
  out : MapAt keyW k r (D.map fun d => (d.1, d.2.1))
  sl : ∀ d ∈ D, ∃ a c, d.2.1 = .slice a d.2.2.length c ∧ Sl tPl k a c d.2.2
  own : ∀ d ∈ D, ∀ g, d.2.1.ownBlock = some g → N ≤ g ∧ g ≠ r ∧ ∃ ob, k g = some ob
  keys : (D.map (·.1)).Nodup
theorem PlsRes.le {N : Nat} {k k' : PH} {r : Nat} {D : List PD} (H : PlsRes N k r D) (hl : Le k k') : PlsRes N k' r D :=
  ⟨H.N_le, H.out.le hl, fun d hd => by obtain ⟨a, c, h1, h2⟩ := H.sl d hd; exact ⟨a, c, h1, h2.le hl⟩, fun d hd g hg => by obtain ⟨h1, h2, ob, h3⟩ := H.own d hd g hg; exact ⟨h1, h2, ob, hl _ _ h3⟩, H.keys⟩
theorem PlsAt.res {N : Nat} {h k : PH} {r : Nat} {D : List PD} (H : PlsAt N h k r D) (hok : ∀ d ∈ D, ∀ p ∈ d.2.2, p.ok) : PlsRes N k r D :=
  ⟨H.N_le, H.out, H.sl hok, fun d hd g hg => ⟨((H.row d hd).1.block hg).1, fun e => (H.row d hd).2.2 (e ▸ hg), ((H.row d hd).1.block hg).2⟩, H.keys⟩
/-- What has been gathered, in memory and as data. -/
def PlacesR (l : List View) (N : Nat) (k : PH) (v : Value) : Prop := ∃ r D, v = .map (some r) ∧ PlsRes N k r D ∧ Gath (toPls D) (evD l) (evG l)
theorem ofTx_ok {D : List Ev} {pid no : Int} (h : ∀ q ∈ D, (evPl q).ok) : ∀ p ∈ ofTx pid no D, p.ok := fun p hp => by
  unfold ofTx at hp
  obtain ⟨q, hq, rfl⟩ := List.mem_map.1 hp
  exact h q (List.mem_filter.1 hq).1
theorem Gath.ok {E : List (Who × List Pl)} {D G : List Ev} (h : Gath E D G) (hD : ∀ q ∈ D, (evPl q).ok) (hG : ∀ q ∈ G, (evPl q).ok) : ∀ e ∈ E, ∀ p ∈ e.2, p.ok := fun e he p hp => by
  by_cases h0 : e.1.alone = 0
  · rw [h.zero e he h0] at hp
    exact ofTx_ok hD p hp
  · obtain ⟨q, hq, e1⟩ := h.more e he h0
    rw [e1] at hp
    simp at hp
    rw [hp]
    exact hG q hq

theorem gath_put {D : List PD} (hk : (D.map (·.1)).Nodup) {X G : List Ev} (hG : Gath (toPls D) X G) (q : Ev) {v v' : Value} {ps : List Pl} (hv : (keyD q.2, v, ps) ∈ D ∨ (v = .slice none 0 0 ∧ ps = [] ∧ keyD q.2 ∉ D.map (·.1))) :
    Gath (toPls (dput (keyD q.2) v' (ps ++ [evPl q]) D)) (X ++ [q]) G := by
  rcases hv with hv | ⟨_, rfl, hv⟩
  · rw [dput_add hk hv]
    exact hG.addD q (by rw [toPls_keys]; exact List.mem_map.2 ⟨_, hv, rfl⟩)
  · rw [dput_new hv]
    have := hG.newD q (by rw [toPls_keys]; exact hv)
    simpa [toPls] using this
theorem gath_few {D : List PD} {X G : List Ev} (hG : Gath (toPls D) X G) (g : Gone) {v : Value} {ps : List Pl} (hv : (keyD g, v, ps) ∈ D ∨ (v = .slice none 0 0 ∧ ps = [] ∧ keyD g ∉ D.map (·.1))) : ps.length ≤ X.length := by
  rcases hv with hv | ⟨_, rfl, hv⟩
  · have := hG.zero (keyD g, ps) (List.mem_map.2 ⟨_, hv, rfl⟩) rfl
    simp only at this
    rw [this]
    simp only [ofTx, List.length_map]
    exact List.length_filter_le _ _
  · simp
theorem gath_putG {D : List PD} {X G : List Ev} (hG : Gath (toPls D) X G) (q : Ev) {v' : Value} : Gath (toPls (dput (keyG q.2 D.length) v' [evPl q] D)) X (G ++ [q]) := by
  have h1 := hG.addG q
  have h2 := hG.freshG q.2
  have e : (toPls D).length = D.length := by simp [toPls]
  rw [toPls_keys, e] at h2
  rw [dput_new h2]
  rw [e] at h1
  simpa [toPls] using h1

theorem evPl_ok {k : PH} {a : Option Addr} {c : Nat} {l : List View} (hl : Sl tView k a c l) (hb : l.length ≤ 1000000) : (∀ q ∈ evD l, (evPl q).ok) ∧ ∀ q ∈ evG l, (evPl q).ok := by
  have key : ∀ i, (h : i < l.length) → (∀ g ∈ l[i].tx.done, g.ok) ∧ ∀ g ∈ l[i].tx.gone, g.ok := fun i h => by
    obtain ⟨_, _, _, _, ⟨_, _, _, _, _, _, _, ⟨_, sg, sd⟩, _⟩, _⟩ := hl.el i l[i] (List.getElem?_eq_getElem h)
    exact ⟨gone_ok sd, gone_ok sg⟩
  refine ⟨fun q hq => ?_, fun q hq => ?_⟩
  · obtain ⟨h, hg⟩ := mem_evD.1 hq
    have := (key _ h).1 _ hg
    exact ⟨by unfold evPl I64; constructor <;> simp only <;> omega, this.2.2.1, this.2.2.2⟩
  · obtain ⟨h, hg⟩ := mem_evG.1 hq
    have := (key _ h).2 _ hg
    exact ⟨by unfold evPl I64; constructor <;> simp only <;> omega, this.2.2.1, this.2.2.2⟩

set_option maxHeartbeats 2000000 in
theorem places_ctn {k : PH} {a : Option Addr} {c : Nat} {l : List View} (hl : Sl tView k a c l) (hb : l.length ≤ 1000000) (hsmall : SmallV l) :
    CTN Tryz.prog 87 #[.slice a l.length c] k (PlacesR l) := by
  refine ctn_of_body (l := [_]) Tryz.func87 rfl Tryz.ntmps87 (by simp) (fun N k k' v hle ⟨r, D, h1, h2, h3⟩ => ⟨r, D, h1, h2.le hle, h3⟩) fun F hF0 hFm => ?_
  have b1 := hl.cap; have b2 := hl.max; unfold maxLen at b2
  have hDl : (evD l).length ≤ l.length * 1000000 := evD_len fun v hv => (hsmall v hv).2.2
  have hGl : (evG l).length ≤ l.length * 1000000 := evG_len fun v hv => (hsmall v hv).2.1
  repeat (first | refine cg_seq ?_ | refine cg_region ?_ | refine rg_nil ?_ | refine eg_then ?_ | refine qsp ?_)
  refine rb rfl rfl rfl rfl (a_makeMap rfl) ?_; intro r k0 hr hNr hler hkr
  repeat (first | refine cg_seq ?_ | refine cg_region ?_ | refine rg_nil ?_ | refine eg_then ?_ | refine qsp ?_ | refine qsn ?_ | refine cg_block ?_)
  refine cg_loop (fun (i : Nat) e k' => ∃ D, PlsAt F.w0.heap.size k k' r D ∧ Gath (toPls D) (evD (l.take i)) (evG (l.take i)) ∧ i ≤ l.length ∧ e = [(3, .is (.map (some r))), (12, .is (.slice a l.length c)), (13, .is (.int .i64 (l.length : Int))), (14, .is (.int .i64 (i : Int)))])
    (fun i => l.length - i) 0 ⟨[], ⟨hler, hr, hNr, MapAt.new _ hkr, by simp, by simp, by simp⟩, Gath.nil, Nat.zero_le _, rfl⟩ ⟨rfl, rfl, rfl, rfl, trivial⟩ ?_
  rintro i e k1 ⟨D, hD, hG, hi, rfl⟩
  repeat (first | refine cg_seq ?_ | refine cg_region ?_ | refine rg_nil ?_ | refine eg_then ?_ | refine qsp ?_)
  refine cg_cond rfl (fun h => ?_) (fun h => ?_)
  · have hlt : i < l.length := by simpa using h
    obtain ⟨bx, ox, cx, rfl, ⟨a0, c0, a1, c1, a2, c2, rfl, ⟨so, sg, sd⟩, hok⟩, hcx⟩ := hl.el i l[i] (List.getElem?_eq_getElem hlt)
    have hsm := hsmall l[i] (List.getElem_mem hlt)
    have hcx1 := hcx.le hD.le
    repeat (first | refine cg_seq ?_ | refine cg_region ?_ | refine eg_then ?_ | refine qsp ?_ | refine qsi ?_ | refine qsg ?_ | refine cg_skip ?_ | refine cg_block ?_)
    refine rb rfl rfl rfl rfl (a_alloc rfl) ?_; intro b7 k7 hb7 hN7 hle7 hk7
    repeat (first | refine qsp ?_)
    refine rw1 rfl rfl rfl rfl rfl rfl rfl hk7 rfl (.inl hN7) ?_ ?_; (simp [Tp.vs, Mark.vs, OpenT.vs, Gone.vs, Tx.cs, View.cs, Rec.vs, Batch.cs, Who.vs, Pl.vs, Told.vs, Fact.vs, Place.vs, Value.oneCell']); intro k8 ht8 hk8
    have c8 := cells_at (vs := l[i].cs a0 c0 a1 c1 a2 c2) hk8 rfl
    have hle8 : Le k1 k8 := ht8 k1 hle7 hb7
    have hD8 := hD.up hle8
    obtain ⟨r0, r1, r2⟩ := View.parts c8
    obtain ⟨t0, t1, t2⟩ := Tx.parts r1
    have hb7 : k b7 = none := hD.le.none hb7
    obtain ⟨h7, eh7⟩ : ∃ h7 : PH, h7 = fun x => if x = b7 then k8 x else k x := ⟨_, rfl⟩
    have hD8 : PlsAt F.w0.heap.size h7 k8 r D := by rw [eh7]; exact hD.rebase hle8 (by assumption)
    have hk7' : Le k h7 := by rw [eh7]; exact le_rebase hb7
    have ch7 : Cells h7 b7 0 (l[i].cs a0 c0 a1 c1 a2 c2) := cells_at (by rw [eh7]; simp; exact hk8) rfl
    clear eh7
    have e1 := sd.cap; have e2 := sd.max; unfold maxLen at e2
    have f1 := sg.cap; have f2 := sg.max; unfold maxLen at f2
    have hevD := evD_succ hlt
    have hevG := evG_succ hlt
    repeat (first | refine cg_seq ?_ | refine cg_region ?_ | refine rg_nil ?_ | refine eg_then ?_ | refine qsp ?_ | refine qsn ?_ | refine qsl ?_ | refine qsf ?_ | refine cg_block ?_)
    refine cg_loop (fun (p : Nat) e k' => ∃ D, PlsAt F.w0.heap.size h7 k' r D ∧ Gath (toPls D) (evD (l.take i) ++ (l[i].tx.done.take p).map fun g => (i, g)) (evG (l.take i)) ∧ p ≤ l[i].tx.done.length ∧ e = [(3, .is (.map (some r))), (4, .is (.int .i64 (i : Int))), (5, .is (.pointer (some ⟨b7, 0, none⟩))), (12, .is (.slice (some ⟨bx, ox, none⟩) l.length c)), (13, .is (.int .i64 (l.length : Int))), (14, .is (.int .i64 (i : Int))), (21, .is (.slice a2 l[i].tx.done.length c2)), (22, .is (.int .i64 (l[i].tx.done.length : Int))), (23, .is (.int .i64 (p : Int)))])
      (fun p => l[i].tx.done.length - p) 0 (e0 := [(3, .is (.map (some r))), (4, .is (.int .i64 (i : Int))), (5, .is (.pointer (some ⟨b7, 0, none⟩))), (12, .is (.slice (some ⟨bx, ox, none⟩) l.length c)), (13, .is (.int .i64 (l.length : Int))), (14, .is (.int .i64 (i : Int))), (21, .is (.slice a2 l[i].tx.done.length c2)), (22, .is (.int .i64 (l[i].tx.done.length : Int))), (23, .is (.int .i64 ((0 : Nat) : Int)))]) ⟨D, hD8, by simpa using hG, Nat.zero_le _, rfl⟩ ⟨rfl, rfl, rfl, rfl, rfl, rfl, rfl, rfl, rfl, trivial⟩ ?_
    clear hD8 hD hG
    rintro p e k9 ⟨D, hD, hG, hp, rfl⟩
    repeat (first | refine cg_seq ?_ | refine cg_region ?_ | refine rg_nil ?_ | refine eg_then ?_ | refine qsp ?_)
    refine cg_cond rfl (fun h1 => ?_) (fun h1 => ?_)
    · have hpt : p < l[i].tx.done.length := by simpa using h1
      obtain ⟨g, hg⟩ : ∃ g, g = l[i].tx.done[p] := ⟨_, rfl⟩
      obtain ⟨by', oy, cy, rfl, ⟨rfl, hgok⟩, hcy⟩ := (sd.le (hk7'.trans hD.le)).el p g (by rw [hg]; exact List.getElem?_eq_getElem hpt)
      repeat (first | refine cg_seq ?_ | refine cg_region ?_ | refine eg_then ?_ | refine qsi ?_ | refine qsg ?_ | refine cg_skip ?_ | refine cg_block ?_)
      refine rb rfl rfl rfl rfl (a_alloc rfl) ?_; intro b10 k10 hb10 hN10 hle10 hk10
      refine rw1 rfl rfl rfl rfl rfl rfl rfl hk10 rfl (.inl hN10) ?_ ?_; (simp [Tp.vs, Mark.vs, OpenT.vs, Gone.vs, Tx.cs, View.cs, Rec.vs, Batch.cs, Who.vs, Pl.vs, Told.vs, Fact.vs, Place.vs, Value.oneCell']); intro k11 ht11 hk11
      have hle11 := ht11 k9 hle10 hb10
      have c11 := cells_at (vs := g.vs) hk11 rfl
      obtain ⟨p0, p1, p2, p3⟩ := Gone.parts c11
      have hD11 := hD.up hle11
      repeat (first | refine cg_seq ?_ | refine cg_region ?_ | refine rg_nil ?_ | refine eg_then ?_ | refine qsl ?_ | refine qsf ?_)
      refine rs rfl rfl (loc_det rfl (d_lit rfl rfl rfl)) ?_
      refine rb rfl rfl rfl rfl (a_alloc rfl) ?_; intro b12 k12 hb12 hN12 hle12 hk12
      refine rw1 (vs := (keyD g).vs) rfl rfl rfl rfl rfl rfl rfl hk12 rfl (.inl hN12) (by simp [Who.vs, Value.oneCell']) ?_; intro k13 ht13 hk13
      have hle13 := ht13 k11 hle12 hb12
      have c13 := cells_at (vs := (keyD g).vs) hk13 rfl
      have hD13 := hD11.up hle13
      have q0 := p0.le hle13
      have q1 := p1.le hle13
      have q2 := p2.le hle13
      have q3 := p3.le hle13
      repeat (first | refine cg_region ?_ | refine rg_nil ?_ | refine eg_then ?_ | refine qsp ?_ | refine qsl ?_ | refine qsg ?_ | refine qsf ?_)
      refine rs rfl rfl (loc_det rfl (d_lit rfl rfl rfl)) ?_
      refine rb rfl rfl rfl rfl (a_slice rfl rfl rfl rfl (by kernel_rfl) rfl) ?_; intro b14 k14 hb14 hN14 hle14 hk14
      have hD14 := hD13.up hle14
      have hb14r : b14 ≠ r := by
        rintro rfl
        obtain ⟨es, cl, g1, _⟩ := hD13.out
        rw [hb14] at g1; cases g1
      obtain ⟨es, cl, g1, g2, g3, g4⟩ := hD14.out
      refine r_entry (enc := keyW) (x := keyD g) rfl rfl rfl rfl rfl rfl rfl g1 hNr ?_
      rw [atE_kget, g2]
      have hlook := pls_look hD14 (keyD g)
      have hent := fun v' => ent_put (keyD g) (.slice none 0 0) v' es cl g3 g4
      have hupd := fun v' => upd_kput (keyD g) v' es cl g3 g4
      generalize (kget (keyD g) (D.map fun d => (d.1, d.2.1))).getD (.slice none 0 0) = v at hlook ⊢
      generalize ((toPls D).find? fun e => decide (keyD g = e.1)).elim [] (·.2) = ps at hlook
      generalize entE (keyD g) (.slice none 0 0) es cl = E at hent ⊢
      have hfew := gath_few hG g hlook
      have hxl : ((evD (l.take i)) ++ (l[i].tx.done.take p).map fun g => (i, g)).length ≤ 1000000 * 1000000 + 1000000 := by
        have := evD_len (l := l.take i) (n := 1000000) fun v hv => (hsmall v (List.mem_of_mem_take hv)).2.2
        have h2 : (l.take i).length * 1000000 ≤ 1000000 * 1000000 := Nat.mul_le_mul_right _ (by rw [List.length_take]; omega)
        rw [List.length_append, List.length_map, List.length_take]
        omega
      have hvr : v.ownBlock ≠ some r := by
        rcases hlook with hv | hv
        · exact (hD14.row _ hv).2.2
        · rw [hv.1]; intro e; cases e
      have hrow : plRow F.w0.heap.size (upd k14 r (.map ((E.1).map (toE keyW)).toArray E.2.1)) v ps := by
        rcases hlook with hv | hv
        · exact (hD14.row _ hv).1.updr (hD14.row _ hv).2.2
        · rw [hv.1, hv.2.1]; exact row_nil _ _ _ _
      have c14 : Cells (upd k14 r (.map ((E.1).map (toE keyW)).toArray E.2.1)) b14 0 (evPl (i, g)).vs := cells_at ((upd_other hb14r).trans hk14) rfl
      repeat (first | refine qsp ?_)
      refine rap rfl rfl rfl rfl rfl rfl rfl hrow c14 rfl (by simp [Pl.vs, Value.oneCell']) rfl rfl (by unfold maxLen; omega) (by omega) ?_
      intro v' k15 hrow15 ht15
      obtain ⟨u1, u2, u3⟩ := hent v'
      obtain ⟨w1, w2, w3⟩ := hupd v'
      rw [← u1] at w1 w2 w3
      rw [← u2] at w3
      rw [g2] at w1
      have hk15 := (turn_keep ht15 (upd_same _ _ _) hvr).1
      repeat (first | refine qsp ?_)
      refine r_entryStore (enc := keyW) rfl rfl rfl rfl rfl rfl rfl hk15 u3 hNr ?_
      have m16 : MapAt keyW (upd k15 r (.map ((putE E.2.2 v' E.1).map (toE keyW)).toArray E.2.1)) r (kput (keyD g) v' (D.map fun d => (d.1, d.2.1))) := ⟨_, _, upd_same _ _ _, w1, w2, w3⟩
      have hrow15 : plRow F.w0.heap.size k15 v' (ps ++ [evPl (i, g)]) := by
        have := hrow15
        unfold plRow
        rw [show (ps ++ [evPl (i, g)]).length = ps.length + 1 by simp, List.flatMap_append]
        simpa using this
      have hD16 := hD14.grow (Le.refl _) ht15 hlook hrow15 m16
      repeat (first | refine cg_region ?_ | refine rg_nil ?_ | refine eg_then ?_ | refine qsp ?_ | refine qsa ?_ | refine eg_in_normal ?_)
      refine eg_again (p + 1) _ ⟨_, hD16, ?_, hpt, rfl⟩ (by omega) ⟨rfl, rfl, rfl, rfl, rfl, rfl, rfl, rfl, rfl, trivial⟩
      have := gath_put hD14.keys hG (i, g) (v' := v') hlook
      rw [List.take_succ_eq_append_getElem hpt, ← hg, List.map_append, ← List.append_assoc]
      exact this
    · have hpl : p = l[i].tx.done.length := by simp at h1; omega
      rw [hpl, List.take_length, ← hevD] at hG
      have ch := ch7.le hD.le
      obtain ⟨r0, r1, r2⟩ := View.parts ch
      obtain ⟨t0, t1, t2⟩ := Tx.parts r1
      repeat (first | refine cg_seq ?_ | refine cg_region ?_ | refine rg_nil ?_ | refine eg_then ?_ | refine qsp ?_ | refine qsn ?_ | refine qsl ?_ | refine qsf ?_ | refine cg_block ?_ | refine cg_exit ?_ | refine eg_then_exit ?_ | refine eg_in_exit ?_)
      refine cg_loop (fun (p : Nat) e k' => ∃ D, PlsAt F.w0.heap.size h7 k' r D ∧ Gath (toPls D) (evD (l.take (i + 1))) (evG (l.take i) ++ (l[i].tx.gone.take p).map fun g => (i, g)) ∧ p ≤ l[i].tx.gone.length ∧ e = [(3, .is (.map (some r))), (4, .is (.int .i64 (i : Int))), (12, .is (.slice (some ⟨bx, ox, none⟩) l.length c)), (13, .is (.int .i64 (l.length : Int))), (14, .is (.int .i64 (i : Int))), (48, .is (.slice a1 l[i].tx.gone.length c1)), (49, .is (.int .i64 (l[i].tx.gone.length : Int))), (50, .is (.int .i64 (p : Int)))])
        (fun p => l[i].tx.gone.length - p) 0 (e0 := [(3, .is (.map (some r))), (4, .is (.int .i64 (i : Int))), (12, .is (.slice (some ⟨bx, ox, none⟩) l.length c)), (13, .is (.int .i64 (l.length : Int))), (14, .is (.int .i64 (i : Int))), (48, .is (.slice a1 l[i].tx.gone.length c1)), (49, .is (.int .i64 (l[i].tx.gone.length : Int))), (50, .is (.int .i64 ((0 : Nat) : Int)))]) ⟨D, hD, by simpa using hG, Nat.zero_le _, rfl⟩ ⟨rfl, rfl, rfl, rfl, rfl, rfl, rfl, rfl, trivial⟩ ?_
      clear hD hG r0 r1 r2 t0 t1 t2 ch
      rintro p e k9 ⟨D, hD, hG, hp, rfl⟩
      repeat (first | refine cg_seq ?_ | refine cg_region ?_ | refine rg_nil ?_ | refine eg_then ?_ | refine qsp ?_)
      refine cg_cond rfl (fun h1 => ?_) (fun h1 => ?_)
      · have hpt : p < l[i].tx.gone.length := by simpa using h1
        obtain ⟨g, hg⟩ : ∃ g, g = l[i].tx.gone[p] := ⟨_, rfl⟩
        obtain ⟨by', oy, cy, rfl, ⟨rfl, hgok⟩, hcy⟩ := (sg.le (hk7'.trans hD.le)).el p g (by rw [hg]; exact List.getElem?_eq_getElem hpt)
        have hlD : D.length ≤ 1000000 * 1000000 + (1000000 * 1000000 + 1000000) := by
          have h0 := hG.count
          have h1 := evD_len (l := l.take (i + 1)) (n := 1000000) fun v hv => (hsmall v (List.mem_of_mem_take hv)).2.2
          have h2 : (l.take (i + 1)).length * 1000000 ≤ 1000000 * 1000000 := Nat.mul_le_mul_right _ (by rw [List.length_take]; omega)
          have h3 := evG_len (l := l.take i) (n := 1000000) fun v hv => (hsmall v (List.mem_of_mem_take hv)).2.1
          have h4 : (l.take i).length * 1000000 ≤ 1000000 * 1000000 := Nat.mul_le_mul_right _ (by rw [List.length_take]; omega)
          rw [List.length_append, List.length_map, List.length_take, show (toPls D).length = D.length by simp [toPls]] at h0
          omega
        repeat (first | refine cg_seq ?_ | refine cg_region ?_ | refine eg_then ?_ | refine qsi ?_ | refine qsg ?_ | refine cg_skip ?_ | refine cg_block ?_)
        refine rb rfl rfl rfl rfl (a_alloc rfl) ?_; intro b10 k10 hb10 hN10 hle10 hk10
        refine rw1 rfl rfl rfl rfl rfl rfl rfl hk10 rfl (.inl hN10) ?_ ?_; (simp [Tp.vs, Mark.vs, OpenT.vs, Gone.vs, Tx.cs, View.cs, Rec.vs, Batch.cs, Who.vs, Pl.vs, Told.vs, Fact.vs, Place.vs, Value.oneCell']); intro k11 ht11 hk11
        have hle11 := ht11 k9 hle10 hb10
        have c11 := cells_at (vs := g.vs) hk11 rfl
        obtain ⟨p0, p1, p2, p3⟩ := Gone.parts c11
        have hD11 := hD.up hle11
        repeat (first | refine cg_region ?_ | refine rg_nil ?_ | refine eg_then ?_ | refine qsp ?_ | refine qsl ?_ | refine qsf ?_)
        refine rs rfl rfl (loc_det rfl (d_maplen (enc := keyW) hD11.out rfl rfl)) ?_
        rw [List.length_map]
        repeat (first | refine qsa ?_)
        refine rs rfl rfl (loc_det rfl (d_lit rfl rfl rfl)) ?_
        repeat (first | refine qsp ?_ | refine qsl ?_ | refine qsf ?_)
        refine rs rfl rfl (loc_det rfl (d_lit rfl rfl rfl)) ?_
        refine rb rfl rfl rfl rfl (a_slice rfl rfl rfl rfl (by kernel_rfl) rfl) ?_; intro b14 k14 hb14 hN14 hle14 hk14
        have hD14 := hD11.up hle14
        refine r_put (enc := keyW) (x := keyG g D.length) hD14.out hNr rfl rfl rfl rfl rfl rfl rfl ?_
        intro k15 ht15 hm15
        have hD15 := hD11.fresh (p := evPl (i, g)) hb14 hN14 hle14 hk14 ht15 hm15
        repeat (first | refine cg_region ?_ | refine rg_nil ?_ | refine eg_then ?_ | refine qsp ?_ | refine qsa ?_ | refine eg_in_normal ?_)
        refine eg_again (p + 1) _ ⟨_, hD15, ?_, hpt, rfl⟩ (by omega) ⟨rfl, rfl, rfl, rfl, rfl, rfl, rfl, rfl, trivial⟩
        rw [List.take_succ_eq_append_getElem hpt, ← hg, List.map_append, ← List.append_assoc]
        exact gath_putG hG (i, g)
      · have hpl : p = l[i].tx.gone.length := by simp at h1; omega
        rw [hpl, List.take_length, ← hevG] at hG
        repeat (first | refine cg_region ?_ | refine rg_nil ?_ | refine eg_then ?_ | refine qsp ?_ | refine qsa ?_ | refine eg_in_normal ?_ | refine cg_exit ?_ | refine eg_then_exit ?_ | refine eg_in_exit ?_)
        exact eg_again (i + 1) _ ⟨D, hD.weak hk7', hG, hlt, rfl⟩ (by omega) ⟨rfl, rfl, rfl, rfl, trivial⟩
  · have hil : i = l.length := by simp at h; omega
    rw [hil, List.take_length] at hG
    repeat (first | refine cg_seq ?_ | refine cg_region ?_ | refine rg_nil ?_ | refine eg_then ?_ | refine qsp ?_ | refine cg_ret ?_ | refine cg_exit ?_ | refine eg_then_exit ?_ | refine eg_in_exit ?_)
    exact eg_return rfl rfl ⟨r, D, rfl, hD.res (fun d hd p hp => hG.ok (evPl_ok hl hb).1 (evPl_ok hl hb).2 (d.1, d.2.2) (List.mem_map.2 ⟨d, hd, rfl⟩) p hp), hG⟩
end Go.Wm

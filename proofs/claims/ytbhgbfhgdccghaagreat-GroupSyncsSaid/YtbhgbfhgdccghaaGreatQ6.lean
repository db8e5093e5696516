/-
  Round: the document's. Conditions: that what is handed in reads as data, and that it is little.
-/
import Derived.Test.YtbhgbfhgdccghaaGreatQ4
import Derived.Test.YtbhgbfhgdccghaaGreatQ5
set_option linter.all false
namespace Go.Wm
open Go.RowKit Go.Proofs
attribute [local irreducible] RG CG EG WA Loc Det Alc CT Exit.then Exit.inBlock Code.wp bodyPost
/-- One block more is known beside the rows. -/
theorem RowsOf.know {α : Type} {f : α → List Value} {N et sz bet bo : Nat} {h k : PH} {vs : List Value} {rs : List (List α)} (H : RowsOf f N et sz bet bo h k vs rs) {b : Nat} {ob : Obj} (hb : h b = none) (hk : k b = some ob) (hap : ∀ (j : Nat) (v : Value), vs[j]? = some v → v.ownBlock ≠ some b) (hne : bo ≠ b) : RowsOf f N et sz bet bo (upd h b ob) k vs rs := by
  refine ⟨H.len, fun i o hi => ?_, by rw [upd_other hne]; exact H.hbo, H.N_le, H.at', fun i v r hv hr => ?_, H.apart⟩
  · by_cases e : i = b
    · subst e
      rw [upd_same] at hi
      cases hi
      exact hk
    · rw [upd_other e] at hi
      exact H.le i o hi
  · obtain ⟨g1, g2, g3⟩ := H.row i v r hv hr
    refine ⟨g1, fun g hg => ?_, g3⟩
    have hgb : g ≠ b := by
      rintro rfl
      exact hap i v hv hg
    rw [upd_other hgb]
    exact g2 g hg
theorem RowsOf.less {α : Type} {f : α → List Value} {N et sz bet bo : Nat} {h h' k : PH} {vs : List Value} {rs : List (List α)} (H : RowsOf f N et sz bet bo h' k vs rs) (hl : Le h h') (hb : h bo = none) : RowsOf f N et sz bet bo h k vs rs :=
  ⟨H.len, hl.trans H.le, hb, H.N_le, H.at', fun i v r hv hr => ⟨(H.row i v r hv hr).1, (fun g hg => by
    have := (H.row i v r hv hr).2.1 g hg
    cases e : h g with
    | none => rfl
    | some ob =>
      rw [hl _ _ e] at this
      cases this), (H.row i v r hv hr).2.2⟩, H.apart⟩
set_option maxHeartbeats 2000000 in
theorem refRound22_ct {k : PH} {a b : Option Addr} {c d : Nat} {l : List Member} {target : List (List Tp)} (hl : Sl tMember k a c l) (ht : Sl (tSl tTp) k b d target) (hb : l.length ≤ 1000000) (hsum : lenTo target target.length ≤ 1000000) :
    CT Tryz.prog 40 #[.slice a l.length c, .slice b target.length d] k (fun k' v => ∃ a c r er, v = .tuple #[.slice a r.length c, .int .i64 er] ∧ Sl (tSl tTp) k' a c r ∧ RndR l target r er) := by
  refine ct_of_body (l := [_, _]) Tryz.func40 rfl Tryz.ntmps40 (by simp) rnd_mono fun F hF0 hFm => ?_
  have b1 := hl.cap; have b2 := hl.max; unfold maxLen at b2
  have b3 := ht.cap; have b4 := ht.max; unfold maxLen at b4
  have bad : okRnd l target = false → ∀ k', ∃ a c r er, Value.tuple #[.slice none 0 0, .int .i64 1] = .tuple #[.slice a r.length c, .int .i64 er] ∧ Sl (tSl tTp) k' a c r ∧ RndR l target r er := fun h k' =>
    ⟨none, 0, [], 1, rfl, slnil _ _, fun _ => ⟨rfl, rfl⟩, fun h' => by rw [h] at h'; cases h'⟩
  repeat (first | refine cg_seq ?_ | refine cg_region ?_ | refine rg_nil ?_ | refine eg_then ?_ | refine qsp ?_ | refine qsn ?_ | refine cg_block ?_)
  refine cg_loop (fun (i : Nat) e k' => ∃ v css, Row F.w0.heap.size k' 53 tTp.sz v (lenTo target i) css.flatten ∧ Pieces tTp k' css ((target.take i).flatten) ∧ Le k k' ∧ Apart k v ∧ i ≤ target.length ∧ e = [(0, .is (.slice a l.length c)), (1, .is (.slice b target.length d)), (6, .is v), (14, .is (.slice b target.length d)), (15, .is (.int .i64 (target.length : Int))), (16, .is (.int .i64 (i : Int)))])
    (fun i => target.length - i) 0 ⟨_, [], row_nil _ _ _ _, Pieces.nil _ _, Le.refl _, apart_nil _ _ _, Nat.zero_le _, rfl⟩ ⟨rfl, rfl, rfl, rfl, rfl, rfl, trivial⟩ ?_
  rintro i e k1 ⟨v, css, hrow, hp, hle1, hap, hi, rfl⟩
  repeat (first | refine cg_seq ?_ | refine cg_region ?_ | refine rg_nil ?_ | refine eg_then ?_ | refine qsp ?_)
  refine cg_cond rfl (fun h => ?_) (fun h => ?_)
  · have hlt : i < target.length := by simpa using h
    obtain ⟨os, hos⟩ : ∃ os, target[i]? = some os := ⟨_, List.getElem?_eq_getElem hlt⟩
    obtain ⟨bx, ox, cx, rfl, ⟨ax, acx, rfl, hsx⟩, hcx⟩ := (ht.le hle1).el i os hos
    have hgd : target.getD i [] = os := by rw [List.getD_eq_getElem?_getD, hos]; rfl
    have hmono2 := lenTo_mono target (i := i + 1) (j := target.length) hlt
    simp only [lenTo, hgd] at hmono2
    have htk : (target.take (i + 1)).flatten = (target.take i).flatten ++ os := by
      rw [List.take_add_one, hos]
      simp
    repeat (first | refine cg_seq ?_ | refine cg_region ?_ | refine rg_nil ?_ | refine eg_then ?_ | refine qsp ?_ | refine qsi ?_ | refine qsl ?_ | refine cg_skip ?_ | refine cg_block ?_)
    refine raps rfl rfl rfl rfl rfl rfl rfl hrow hsx tp_one rfl rfl (by unfold maxLen; omega) (by omega) ?_
    intro v' k4 css' hp4 hrow4 ht4
    obtain ⟨hle4, hap4⟩ := ht4 k hle1 hap
    repeat (first | refine cg_region ?_ | refine rg_nil ?_ | refine eg_then ?_ | refine qsp ?_ | refine qsa ?_ | refine eg_in_normal ?_)
    refine eg_again (i + 1) _ ⟨v', css ++ css', ?_, ?_, hle4, hap4, hlt, rfl⟩ (by omega) ⟨rfl, rfl, rfl, rfl, rfl, rfl, trivial⟩
    · rw [List.flatten_append]
      simp only [lenTo, hgd]
      exact hrow4
    · rw [htk]
      have h5 : Pieces tTp k4 css (target.take i).flatten := ⟨hp.1, hp.2⟩
      have h6 : Pieces tTp k4 css' os := ⟨hp4.1, hp4.2⟩
      exact h5.append h6
  · have hil : i = target.length := by simp at h; omega
    rw [hil, lenTo_flat target target.length (Nat.le_refl _), List.take_length] at hrow
    rw [hil, List.take_length] at hp
    obtain ⟨a', c', rfl, hsl⟩ := hrow.sls hp
    have hmc := refMembers_ct (hl.le hle1)
    have hpc := parts22_ct hsl
    clear hrow hp
    repeat (first | refine cg_seq ?_ | refine cg_region ?_ | refine eg_then ?_ | refine qsp ?_ | refine cg_exit ?_ | refine eg_then_exit ?_ | refine eg_in_exit ?_)
    cases hM : okM l with
    | false =>
      rw [hM] at hmc
      refine rs rfl rfl (loc_call_is rfl rfl rfl rfl (hmc)) ?_
      repeat (first | refine cg_seq ?_ | refine cg_region ?_ | refine rg_nil ?_ | refine eg_then ?_ | refine qsp ?_ | refine qso ?_ | refine cg_cond_true rfl ?_ | refine cg_ret ?_ | refine eg_then_ret ?_)
      exact eg_return2 rfl rfl rfl (bad (by simp [okRnd, hM]) _)
    | true =>
    rw [hM] at hmc
    refine rs rfl rfl (loc_call_is rfl rfl rfl rfl (hmc)) ?_
    repeat (first | refine qsp ?_ | refine qsn ?_)
    by_cases hlen : target.length = l.length
    · have q1 : ((target.length : Int) != (l.length : Int)) = false := by simp [hlen]
      rw [q1]
      repeat (first | refine qsp ?_)
      by_cases hnd : target.flatten.Nodup
      · have hok : okRnd l target = true := by simp [okRnd, hM, hlen, hnd]
        rw [decide_eq_true hnd] at hpc
        refine rs rfl rfl (loc_call_is rfl rfl rfl rfl (hpc)) ?_
        repeat (first | refine cg_seq ?_ | refine cg_region ?_ | refine rg_nil ?_ | refine eg_then ?_ | refine qsp ?_ | refine qsn ?_ | refine cg_cond_false rfl ?_ | refine cg_skip ?_)
        refine rb rfl rfl rfl rfl (a_makeSlice (m := l.length) (c := l.length) rfl rfl rfl (Nat.le_refl _) (by omega) (by omega)) ?_; intro bo k2 hbo hNbo hle2 hk2
        have hk2' : k2 bo = some (.cells (List.replicate l.length (Value.slice none 0 0)).toArray 25 (0, 0)) := by
          rw [hk2, made_nils]
        have rows0 := rows_nil Tp.vs (et := 53) (sz := 3) (h := k1) l.length hle2 hbo hNbo hk2'
        rw [← rsR_zero l target] at rows0
        repeat (first | refine cg_seq ?_ | refine cg_region ?_ | refine rg_nil ?_ | refine eg_then ?_ | refine qsp ?_ | refine qsn ?_ | refine cg_block ?_)
        refine cg_loop (fun (i : Nat) e k' => ∃ vs, RowsOf Tp.vs F.w0.heap.size 53 3 25 bo k1 k' vs (rsR l target i 0) ∧ i ≤ l.length ∧ e = [(0, .is (.slice a l.length c)), (1, .is (.slice b target.length d)), (9, .is (.slice (some ⟨bo, 0, none⟩) l.length l.length)), (42, .is (.slice a l.length c)), (43, .is (.int .i64 (l.length : Int))), (44, .is (.int .i64 (i : Int)))])
          (fun i => l.length - i) 0 ⟨_, rows0, Nat.zero_le _, rfl⟩ ⟨rfl, rfl, rfl, rfl, rfl, rfl, trivial⟩ ?_
        clear hi h hil
        rintro i e k3 ⟨vs, rows3, hi, rfl⟩
        repeat (first | refine cg_seq ?_ | refine cg_region ?_ | refine rg_nil ?_ | refine eg_then ?_ | refine qsp ?_)
        refine cg_cond rfl (fun h => ?_) (fun h => ?_)
        · have hil : i < l.length := by simpa using h
          have hlt : i < target.length := by omega
          obtain ⟨mi, hmi⟩ : ∃ mi, l[i]? = some mi := ⟨_, List.getElem?_eq_getElem hil⟩
          obtain ⟨bx, ox, cx, rfl, ⟨sa, sc, oa, oc, rfl, ⟨_, hown⟩, _⟩, hcx⟩ := ((hl.le hle1).le rows3.le).el i mi hmi
          obtain ⟨os, hos⟩ : ∃ os, target[i]? = some os := ⟨_, List.getElem?_eq_getElem hlt⟩
          have hgd : target.getD i [] = os := by rw [List.getD_eq_getElem?_getD, hos]; rfl
          obtain ⟨by', oy, cy, rfl, ⟨ax, acx, rfl, hsx⟩, hcy0⟩ := (ht.le hle1).el i os hos
          have b5 := hsx.cap; have b6 := hsx.max; unfold maxLen at b6
          have hbd : os.length ≤ 1000000 := by
            have h1 := lenTo_mono target (i := i + 1) (j := target.length) hlt
            simp only [lenTo, hgd] at h1
            omega
          have hrow := rsR_row (l := l) (target := target) (i := i)
          rw [hgd] at hrow
          have hgo : ∀ tp, giveB l i tp = (decide (tp ∈ mi.own) || !othB l i tp) := fun tp => by
            have e := (List.getElem?_eq_some_iff.1 hmi).2
            rw [give_oth hil, e]
          have hownk : Sl tTp k1 oa oc mi.own := by
            obtain ⟨_, _, _, ey, ⟨sa2, sc2, oa2, oc2, rfl, ⟨_, hown2⟩, _⟩, hcy⟩ := (hl.le hle1).el i mi hmi
            cases ey
            obtain ⟨c1', et1, fr1, g1, g2⟩ := hcy.le rows3.le
            obtain ⟨c2', et2, fr2, g3, g4⟩ := hcx
            rw [g1] at g3
            cases g3
            have f3 := (g2 3 _ rfl).symm.trans (g4 3 _ rfl)
            simp at f3
            obtain ⟨rfl, rfl⟩ := f3
            exact hown2
          repeat (first | refine cg_seq ?_ | refine cg_region ?_ | refine eg_then ?_ | refine qsp ?_ | refine qsi ?_ | refine qsg ?_ | refine cg_skip ?_ | refine cg_block ?_)
          refine rb rfl rfl rfl rfl (a_alloc rfl) ?_; intro b5 k5 hb5 hN5 hle5 hk5
          repeat (first | refine qsp ?_)
          refine rw1 rfl rfl rfl rfl rfl rfl rfl hk5 rfl (.inl hN5) ?_ ?_; (simp [Tp.vs, Member.cs, Group.cs, Value.oneCell']); intro k6 ht6 hk6
          have hle6 : Le k3 k6 := ht6 k3 hle5 hb5
          have rows6 := rows3.up hle6
          have hcy := hcy0.le rows6.le
          have c5 := (cells_at (vs := Member.cs mi sa sc oa oc) hk6 rfl)
          have hb5h : k1 b5 = none := by
            cases e : k1 b5 with
            | none => rfl
            | some ob => rw [rows3.le _ _ e] at hb5; cases hb5
          -- the rows are apart from the copy of the member
          have hapm : ∀ (j : Nat) (v : Value), vs[j]? = some v → v.ownBlock ≠ some b5 := fun j v hv hg => by
            have hjl : j < (rsR l target i 0).length := by rw [← rows3.len]; exact (List.getElem?_eq_some_iff.1 hv).1
            obtain ⟨hr4, _, _⟩ := rows3.row j v _ hv (List.getElem?_eq_getElem hjl)
            obtain ⟨_, ob, ho⟩ := hr4.block hg
            rw [hb5] at ho; cases ho
          have hbob5 : bo ≠ b5 := by rintro rfl; have := rows3.at'; rw [hb5] at this; cases this
          repeat (first | refine cg_seq ?_ | refine cg_region ?_ | refine rg_nil ?_ | refine eg_then ?_ | refine qsp ?_ | refine qsn ?_ | refine qsi ?_ | refine qsl ?_ | refine cg_block ?_)
          refine cg_loop (fun (p : Nat) e k' => ∃ vs, RowsOf Tp.vs F.w0.heap.size 53 3 25 bo (upd k1 b5 (.cells (Member.cs mi sa sc oa oc).toArray 44 (0, 0))) k' vs (rsR l target i p) ∧ p ≤ os.length ∧ e = [(0, .is (.slice (some ⟨bx, ox, none⟩) l.length c)), (1, .is (.slice (some ⟨by', oy, none⟩) target.length d)), (9, .is (.slice (some ⟨bo, 0, none⟩) l.length l.length)), (10, .is (.int .i64 (i : Int))), (11, .is (.pointer (some ⟨b5, 0, none⟩))), (42, .is (.slice (some ⟨bx, ox, none⟩) l.length c)), (43, .is (.int .i64 (l.length : Int))), (44, .is (.int .i64 (i : Int))), (52, .is (.slice ax os.length acx)), (53, .is (.int .i64 (os.length : Int))), (54, .is (.int .i64 (p : Int)))])
            (fun p => os.length - p) 0 ⟨vs, rows6.know hb5h hk6 hapm hbob5, Nat.zero_le _, rfl⟩ ⟨rfl, rfl, rfl, rfl, rfl, rfl, rfl, rfl, rfl, rfl, rfl, trivial⟩ ?_
          have hleu : Le k1 (upd k1 b5 (.cells (Member.cs mi sa sc oa oc).toArray 44 (0, 0))) := le_new hb5h _
          have hcu : Cells (upd k1 b5 (.cells (Member.cs mi sa sc oa oc).toArray 44 (0, 0))) b5 (0 + 3) [.slice oa mi.own.length oc] := (cells_at (vs := Member.cs mi sa sc oa oc) (upd_same _ _ _) rfl).one (i := 3) rfl
          generalize upd k1 b5 (.cells (Member.cs mi sa sc oa oc).toArray 44 (0, 0)) = ku at hleu hcu
          clear rows3 rows6 hcy vs hapm c5
          rintro p e k4 ⟨vs, rows4, hp, rfl⟩
          repeat (first | refine cg_seq ?_ | refine cg_region ?_ | refine rg_nil ?_ | refine eg_then ?_ | refine qsp ?_)
          refine cg_cond rfl (fun h1 => ?_) (fun h1 => ?_)
          · have hpt : p < os.length := by simpa using h1
            have hstep := rsR_step hil hgd hpt
            generalize htp : os[p] = tp at hstep
            rw [hgo] at hstep
            obtain ⟨bz, oz, cz, rfl, ⟨rfl, _⟩, hcz⟩ := ((hsx.le hleu).le rows4.le).el p tp (by rw [← htp]; exact List.getElem?_eq_getElem hpt)
            repeat (first | refine cg_seq ?_ | refine cg_region ?_ | refine eg_then ?_ | refine qsi ?_ | refine qsg ?_ | refine cg_skip ?_ | refine cg_block ?_)
            refine rb rfl rfl rfl rfl (a_alloc rfl) ?_; intro b8 k8 hb8 hN8 hle8 hk8
            refine rw1 rfl rfl rfl rfl rfl rfl rfl hk8 rfl (.inl hN8) ?_ ?_; (simp [Tp.vs, Member.cs, Group.cs, Value.oneCell']); intro k9 ht9 hk9
            have hle9 := ht9 k4 hle8 hb8
            have c8 := cells_at (vs := tp.vs) hk9 rfl
            have rows := rows4.up hle9
            have c11 := hcu.le rows.le
            have hhas := has22_ct (hownk.le (hleu.trans rows.le)) tp
            have hoth := others_ct (((hl.le hle1).le hleu).le rows.le) i tp
            have hvl : i < vs.length := by rw [rows.len, rsR_len]; exact hil
            have hv : vs[i]? = some vs[i] := List.getElem?_eq_getElem hvl
            have hr : (rsR l target i p)[i]? = some ((os.take p).filter (giveB l i)) := by
              rw [rsR_get hil, if_neg (by omega), if_pos rfl, hgd]
            generalize hvv : vs[i] = v at hv
            obtain ⟨hrow4, _, _⟩ := rows4.row i v _ hv hr
            obtain ⟨hrw, hap, hvb⟩ := rows.row i v _ hv hr
            have hd := le_delV rows.le hap
            have hvb9 : v.ownBlock ≠ some b8 := fun hg => by
              obtain ⟨_, ob, ho⟩ := hrow4.block hg
              rw [hb8] at ho
              cases ho
            have ct : Cells (delV k9 v) b8 0 tp.vs := c8.delV hvb9
            have cbo : Cells (delV k9 v) bo (0 + i * 1) [v] := by
              refine Cells.delV ⟨vs.toArray, 25, (0, 0), rows.at', fun j u hu => ?_⟩ hvb
              have hj : j = 0 := by
                have := (List.getElem?_eq_some_iff.1 hu).1
                simp at this
                exact this
              subst hj
              simp at hu
              subst hu
              simp [hv]
            have hrl : ((os.take p).filter (giveB l i)).length ≤ 1000000 := by
              have := List.length_filter_le (giveB l i) (os.take p)
              rw [List.length_take] at this
              omega
            generalize hrr : (os.take p).filter (giveB l i) = rr at hr hrw hrl hstep
            by_cases hm : tp ∈ mi.own
            · rw [decide_eq_true hm] at hhas hstep
              rw [Bool.true_or, if_pos rfl] at hstep
              repeat (first | refine cg_seq ?_ | refine cg_region ?_ | refine rg_nil ?_ | refine eg_then ?_ | refine qsl ?_ | refine qsg ?_ | refine qsf ?_)
              refine rs rfl rfl (loc_call_is rfl rfl rfl rfl (hhas)) ?_
              repeat (first | refine rg_nil ?_ | refine eg_then ?_ | refine qsp ?_ | refine qso ?_ | refine cg_cond_true rfl ?_)
              refine cg_app v hrw rfl (by kernel_rfl) (by kernel_rfl) rfl rfl (m' := rr.length + 1) (xs' := rr.flatMap Tp.vs ++ tp.vs) ?_
              repeat (first | refine qvp ?_ | refine qvi ?_ | refine qvl ?_ | refine qvg ?_)
              refine we_v rfl (loc_alloc rfl (a_slice rfl rfl rfl rfl (by kernel_rfl) rfl)) ?_
              refine we_app rfl rfl rfl rfl rfl (fun k1 u _ ⟨b, hu, hkb, _⟩ => ⟨b, 0, 1, hu, cells_at hkb rfl⟩) rfl (by simp [Tp.vs, Value.oneCell']) rfl rfl (by unfold maxLen; omega) (by omega) ?_
              repeat (first | refine qvi ?_)
              refine we_nil ⟨77, _, [(0, .is (.slice (some ⟨bx, ox, none⟩) l.length c)), (1, .is (.slice (some ⟨by', oy, none⟩) target.length d)), (9, .is (.slice (some ⟨bo, 0, none⟩) l.length l.length)), (10, .is (.int .i64 (i : Int))), (11, .is (.pointer (some ⟨b5, 0, none⟩))), (42, .is (.slice (some ⟨bx, ox, none⟩) l.length c)), (43, .is (.int .i64 (l.length : Int))), (44, .is (.int .i64 (i : Int))), (52, .is (.slice (some ⟨bz, oz, none⟩) os.length acx)), (53, .is (.int .i64 (os.length : Int))), (54, .is (.int .i64 (p : Int))), (78, .is (.pointer (some ⟨bo, 0 + i * 1, none⟩)))], rfl, rfl, rfl, ⟨rfl, rfl, rfl, rfl, rfl, rfl, rfl, rfl, rfl, rfl, rfl, rfl, trivial⟩, fun v' k11 hrow11 ht11 => ?_⟩
              obtain ⟨hk11, hnext⟩ := rows.turn hv hr tp hrow11 ht11
              refine rw0 rfl rfl rfl rfl rfl rfl ?_ rfl hk11 ?_ (.inl hNbo) ?_
              · obtain ⟨_, h5⟩ := hrow11
                rcases h5 with ⟨rfl, _⟩ | ⟨g, cap, cur, rfl, _⟩ <;> rfl
              · simp; omega
              intro k12 ht12 hk12
              simp only [Nat.zero_add, Nat.mul_one] at hk12
              have rows12 := hnext k12 ht12 hk12
              rw [← hstep] at rows12
              repeat (first | refine cg_region ?_ | refine rg_nil ?_ | refine eg_then ?_ | refine qsp ?_ | refine qsa ?_ | refine eg_in_normal ?_)
              exact eg_again (p + 1) _ ⟨_, rows12, hpt, rfl⟩ (by omega) ⟨rfl, rfl, rfl, rfl, rfl, rfl, rfl, rfl, rfl, rfl, rfl, trivial⟩
            · rw [decide_eq_false hm] at hhas hstep
              cases ho2 : othB l i tp with
              | true =>
                rw [ho2] at hoth hstep
                rw [if_neg (by simp)] at hstep
                repeat (first | refine cg_seq ?_ | refine cg_region ?_ | refine rg_nil ?_ | refine eg_then ?_ | refine qsl ?_ | refine qsg ?_ | refine qsf ?_)
                refine rs rfl rfl (loc_call_is rfl rfl rfl rfl (hhas)) ?_
                repeat (first | refine qsp ?_ | refine qsg ?_)
                refine rs rfl rfl (loc_call_is rfl rfl rfl rfl (hoth)) ?_
                repeat (first | refine cg_region ?_ | refine rg_nil ?_ | refine eg_then ?_ | refine qsp ?_ | refine qsa ?_ | refine cg_cond_false rfl ?_ | refine cg_skip ?_ | refine eg_in_normal ?_)
                refine eg_again (p + 1) _ ⟨vs, ?_, hpt, rfl⟩ (by omega) ⟨rfl, rfl, rfl, rfl, rfl, rfl, rfl, rfl, rfl, rfl, rfl, trivial⟩
                rw [hstep]
                exact rows
              | false =>
                rw [ho2] at hoth hstep
                rw [if_pos (by simp)] at hstep
                repeat (first | refine cg_seq ?_ | refine cg_region ?_ | refine rg_nil ?_ | refine eg_then ?_ | refine qsl ?_ | refine qsg ?_ | refine qsf ?_)
                refine rs rfl rfl (loc_call_is rfl rfl rfl rfl (hhas)) ?_
                repeat (first | refine qsp ?_ | refine qsg ?_)
                refine rs rfl rfl (loc_call_is rfl rfl rfl rfl (hoth)) ?_
                repeat (first | refine rg_nil ?_ | refine eg_then ?_ | refine qsp ?_ | refine cg_cond_true rfl ?_)
                refine cg_app v hrw rfl (by kernel_rfl) (by kernel_rfl) rfl rfl (m' := rr.length + 1) (xs' := rr.flatMap Tp.vs ++ tp.vs) ?_
                repeat (first | refine qvp ?_ | refine qvi ?_ | refine qvl ?_ | refine qvg ?_)
                refine we_v rfl (loc_alloc rfl (a_slice rfl rfl rfl rfl (by kernel_rfl) rfl)) ?_
                refine we_app rfl rfl rfl rfl rfl (fun k1 u _ ⟨b, hu, hkb, _⟩ => ⟨b, 0, 1, hu, cells_at hkb rfl⟩) rfl (by simp [Tp.vs, Value.oneCell']) rfl rfl (by unfold maxLen; omega) (by omega) ?_
                repeat (first | refine qvi ?_)
                refine we_nil ⟨77, _, [(0, .is (.slice (some ⟨bx, ox, none⟩) l.length c)), (1, .is (.slice (some ⟨by', oy, none⟩) target.length d)), (9, .is (.slice (some ⟨bo, 0, none⟩) l.length l.length)), (10, .is (.int .i64 (i : Int))), (11, .is (.pointer (some ⟨b5, 0, none⟩))), (42, .is (.slice (some ⟨bx, ox, none⟩) l.length c)), (43, .is (.int .i64 (l.length : Int))), (44, .is (.int .i64 (i : Int))), (52, .is (.slice (some ⟨bz, oz, none⟩) os.length acx)), (53, .is (.int .i64 (os.length : Int))), (54, .is (.int .i64 (p : Int))), (78, .is (.pointer (some ⟨bo, 0 + i * 1, none⟩)))], rfl, rfl, rfl, ⟨rfl, rfl, rfl, rfl, rfl, rfl, rfl, rfl, rfl, rfl, rfl, rfl, trivial⟩, fun v' k11 hrow11 ht11 => ?_⟩
                obtain ⟨hk11, hnext⟩ := rows.turn hv hr tp hrow11 ht11
                refine rw0 rfl rfl rfl rfl rfl rfl ?_ rfl hk11 ?_ (.inl hNbo) ?_
                · obtain ⟨_, h5⟩ := hrow11
                  rcases h5 with ⟨rfl, _⟩ | ⟨g, cap, cur, rfl, _⟩ <;> rfl
                · simp; omega
                intro k12 ht12 hk12
                simp only [Nat.zero_add, Nat.mul_one] at hk12
                have rows12 := hnext k12 ht12 hk12
                rw [← hstep] at rows12
                repeat (first | refine cg_region ?_ | refine rg_nil ?_ | refine eg_then ?_ | refine qsp ?_ | refine qsa ?_ | refine eg_in_normal ?_)
                exact eg_again (p + 1) _ ⟨_, rows12, hpt, rfl⟩ (by omega) ⟨rfl, rfl, rfl, rfl, rfl, rfl, rfl, rfl, rfl, rfl, rfl, trivial⟩
          · have hpl : p = os.length := by simp at h1; omega
            rw [hpl, hrow] at rows4
            repeat (first | refine cg_region ?_ | refine rg_nil ?_ | refine eg_then ?_ | refine qsp ?_ | refine qsa ?_ | refine eg_in_normal ?_ | refine cg_exit ?_ | refine eg_then_exit ?_ | refine eg_in_exit ?_)
            exact eg_again (i + 1) _ ⟨vs, rows4.less hleu hbo, hil, rfl⟩ (by omega) ⟨rfl, rfl, rfl, rfl, rfl, rfl, trivial⟩
        · have hil : i = l.length := by simp at h; omega
          rw [hil, rsR_all] at rows3
          have hsl := rows3.sl (T := tTp) (by unfold roundM; simp; unfold maxLen; omega) (fun r hr x hx => ⟨rfl, by obtain ⟨t, h1, h2⟩ := roundM_sub hr hx; exact sls_tpok ht t h1 x h2⟩)
          have hrl : (roundM l target).length = l.length := by simp [roundM]
          repeat (first | refine cg_seq ?_ | refine cg_region ?_ | refine rg_nil ?_ | refine eg_then ?_ | refine qsp ?_ | refine cg_ret ?_ | refine cg_exit ?_ | refine eg_then_exit ?_ | refine eg_in_exit ?_)
          refine eg_return2 rfl rfl rfl ⟨some ⟨bo, 0, none⟩, l.length, roundM l target, 0, (by rw [hrl]), ?_, (fun h => by rw [hok] at h; cases h), fun _ => ⟨rfl, rfl⟩⟩
          rw [hrl] at hsl
          exact hsl
      · rw [decide_eq_false hnd] at hpc
        refine rs rfl rfl (loc_call_is rfl rfl rfl rfl (hpc)) ?_
        repeat (first | refine cg_seq ?_ | refine cg_region ?_ | refine rg_nil ?_ | refine eg_then ?_ | refine qsp ?_ | refine cg_cond_true rfl ?_ | refine cg_ret ?_ | refine eg_then_ret ?_)
        exact eg_return2 rfl rfl rfl (bad (by simp [okRnd, hnd]) _)
    · have q1 : ((target.length : Int) != (l.length : Int)) = true := by simp; omega
      rw [q1]
      repeat (first | refine cg_seq ?_ | refine cg_region ?_ | refine rg_nil ?_ | refine eg_then ?_ | refine qsp ?_ | refine qso ?_ | refine cg_cond_true rfl ?_ | refine cg_ret ?_ | refine eg_then_ret ?_)
      exact eg_return2 rfl rfl rfl (bad (by simp [okRnd, hlen]) _)
end Go.Wm

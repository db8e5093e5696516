/-
  How many partitions move: 'assign.Moves', and the same of the reference answer. Conditions: that what is handed in reads as data, and that it is little.
-/
import Derived.Test.YtapfmndcjcdcjaaD1
import Derived.Test.YtapfmndcjcdcjaaPart
set_option linter.all false
namespace Go.Wm
open Go.RowKit Go.Proofs
attribute [local irreducible] RG CG EG WA Loc Det Alc CT Exit.then Exit.inBlock Code.wp bodyPost

/-- It moves: another one has it. -/
def mvB (l : List Mem) (i : Nat) (tp : Tp) : Bool := !decide (tp ∈ ((l[i]?).map (·.own)).getD []) && l.any fun m => decide (tp ∈ m.own)
def mvTo (l : List Mem) (own : List (List Tp)) : Nat → Nat
  | 0 => 0
  | i + 1 => mvTo l own i + (own.getD i []).countP (mvB l i)
def movesM (l : List Mem) (own : List (List Tp)) : Nat := mvTo l own (min own.length l.length)
def lenTo (own : List (List Tp)) : Nat → Nat
  | 0 => 0
  | i + 1 => lenTo own i + (own.getD i []).length
theorem mvTo_le (l : List Mem) (own : List (List Tp)) : ∀ i, mvTo l own i ≤ lenTo own i
  | 0 => Nat.le_refl _
  | i + 1 => by
    have := mvTo_le l own i
    have := List.countP_le_length (p := mvB l i) (l := own.getD i [])
    simp only [mvTo, lenTo]
    omega
theorem lenTo_mono (own : List (List Tp)) : ∀ {i j}, i ≤ j → lenTo own i ≤ lenTo own j
  | i, 0, h => by have : i = 0 := by omega
                  subst this; exact Nat.le_refl _
  | i, j + 1, h => by
    rcases Nat.lt_or_ge i (j + 1) with h1 | h1
    · have := lenTo_mono own (i := i) (j := j) (by omega)
      simp only [lenTo]
      omega
    · have : i = j + 1 := by omega
      subst this; exact Nat.le_refl _
theorem countP_take_succ {α : Type} {l : List α} {f : α → Bool} {p : Nat} (h : p < l.length) : (l.take (p + 1)).countP f = (l.take p).countP f + if f l[p] then 1 else 0 := by
  rw [List.take_succ_eq_append_getElem h, List.countP_append]
  congr 1
  simp [List.countP_cons]
theorem own_mv {l : List Mem} {i : Nat} (h : i < l.length) {D : List (Tp × Nat × List Int)} {k : PH} {r : Nat} (hst : OwnSt k r D) (hs : Sets D (HasR l l.length)) (tp : Tp) :
    (kget tp (D.map fun d => (d.1, Value.map (some d.2.1))) = none ∧ mvB l i tp = false ∧ ∀ j (hj : j < l.length), tp ∉ l[j].own) ∨
    ∃ rt S, kget tp (D.map fun d => (d.1, Value.map (some d.2.1))) = some (.map (some rt)) ∧ MapAt keyI k rt (S.map fun i => (i, Value.bool true)) ∧ S ≠ [] ∧ mvB l i tp = !decide ((i : Int) ∈ S) ∧ ((i : Int) ∈ S ↔ tp ∈ l[i].own) := by
  rcases own_look hst hs tp with ⟨h1, h2⟩ | ⟨rt, S, h1, h2, h3, h4⟩
  · have hno : ∀ j (hj : j < l.length), tp ∉ l[j].own := fun j hj hm => h2 (j : Int) ⟨j, rfl, hj, hj, hm⟩
    refine .inl ⟨h1, ?_, hno⟩
    have : l.any (fun m => decide (tp ∈ m.own)) = false := by
      rw [List.any_eq_false]
      intro m hm
      obtain ⟨j, hj⟩ := List.getElem?_of_mem hm
      have hjl : j < l.length := (List.getElem?_eq_some_iff.1 hj).1
      have e := (List.getElem?_eq_some_iff.1 hj).2
      simp [← e, hno j hjl]
    simp only [mvB, this, Bool.and_false]
  · have hi : ((i : Int) ∈ S ↔ tp ∈ l[i].own) := by
      rw [h4]
      constructor
      · rintro ⟨j, e, _, hj, hm⟩
        have : j = i := by omega
        subst this
        exact hm
      · exact fun hm => ⟨i, rfl, h, h, hm⟩
    refine .inr ⟨rt, S, h1, h2, h3, ?_, hi⟩
    have hany : l.any (fun m => decide (tp ∈ m.own)) = true := by
      obtain ⟨x, hx⟩ := List.exists_mem_of_ne_nil S h3
      obtain ⟨j, _, _, hj, hm⟩ := (h4 x).1 hx
      rw [List.any_eq_true]
      exact ⟨l[j], List.getElem_mem hj, by simpa using hm⟩
    simp only [mvB, hany, Bool.and_true, List.getElem?_eq_getElem h, Option.map_some, Option.getD_some]
    congr 1
    rw [Bool.eq_iff_iff]
    simpa using hi.symm

set_option maxHeartbeats 2000000 in
theorem moves_ct {k : PH} {a b : Option Addr} {c d : Nat} {l : List Mem} {own : List (List Tp)} (hl : Sl tMem k a c l) (ho : Sl (tSl tTp) k b d own) (hsum : lenTo own (min own.length l.length) ≤ 1000000) :
    CT Try.prog 18 #[.slice a l.length c, .slice b own.length d] k (fun k' v => v = .int .i64 (movesM l own : Nat)) := by
  refine ct_of_body (l := [_, _]) Try.func18 rfl Try.ntmps18 (by simp) (fun _ _ _ _ h => h) fun F hF0 hFm => ?_
  have b1 := hl.cap; have b2 := hl.max; unfold maxLen at b2
  have b3 := ho.cap; have b4 := ho.max; unfold maxLen at b4
  repeat (first | refine cg_seq ?_ | refine cg_region ?_ | refine rg_nil ?_ | refine eg_then ?_ | refine qsp ?_ | refine qsn ?_ | refine qsa ?_ | refine qss ?_ | refine qsi ?_ | refine qsz ?_ | refine qsl ?_ | refine qsg ?_ | refine qsf ?_ | refine qsd ?_ | refine qse ?_ | refine qsx ?_ | refine qso ?_ | refine cg_cond_true rfl ?_ | refine cg_cond_false rfl ?_ | refine cg_skip ?_ | refine cg_block ?_ | refine eg_in_normal ?_ | refine cg_ret ?_ | refine eg_then_ret ?_ | refine eg_in_ret ?_ | refine cg_exit ?_ | refine eg_then_exit ?_ | refine eg_in_exit ?_ | refine eg_in_other rfl ?_)
  refine rv rfl rfl rfl (loc_call rfl rfl rfl rfl (fun k k' v hle ⟨r, D, h1, h2, h3⟩ => ⟨r, D, h1, h2.le hle, h3⟩) (owners_ct hl)) ?_
  rintro k1 hle1 _ ⟨r, D, rfl, hst, hs⟩
  repeat (first | refine cg_seq ?_ | refine cg_region ?_ | refine rg_nil ?_ | refine eg_then ?_ | refine qsp ?_ | refine qsn ?_ | refine qsa ?_ | refine qss ?_ | refine qsi ?_ | refine qsz ?_ | refine qsl ?_ | refine qsg ?_ | refine qsf ?_ | refine qsd ?_ | refine qse ?_ | refine qsx ?_ | refine qso ?_ | refine cg_cond_true rfl ?_ | refine cg_cond_false rfl ?_ | refine cg_skip ?_ | refine cg_block ?_ | refine eg_in_normal ?_ | refine cg_ret ?_ | refine eg_then_ret ?_ | refine eg_in_ret ?_ | refine cg_exit ?_ | refine eg_then_exit ?_ | refine eg_in_exit ?_ | refine eg_in_other rfl ?_)
  refine rs rfl rfl (loc_det rfl (d_min rfl rfl rfl)) ?_
  have hmin : (if (l.length : Int) < (own.length : Int) then (l.length : Int) else (own.length : Int)) = ((min own.length l.length : Nat) : Int) := by
    split <;> omega
  rw [hmin]
  refine rs rfl rfl (loc_det rfl (d_pre (ho.le hle1) rfl rfl rfl (by omega))) ?_
  generalize hq : min own.length l.length = q at hsum hmin
  have hql : q ≤ l.length ∧ q ≤ own.length := by omega
  have htl : (own.take q).length = q := by rw [List.length_take]; omega
  have ho1 := (ho.le hle1).take q
  rw [htl]
  repeat (first | refine cg_seq ?_ | refine cg_region ?_ | refine rg_nil ?_ | refine eg_then ?_ | refine qsp ?_ | refine qsn ?_ | refine qsa ?_ | refine qss ?_ | refine qsi ?_ | refine qsz ?_ | refine qsl ?_ | refine qsg ?_ | refine qsf ?_ | refine qsd ?_ | refine qse ?_ | refine qsx ?_ | refine qso ?_ | refine cg_cond_true rfl ?_ | refine cg_cond_false rfl ?_ | refine cg_skip ?_ | refine cg_block ?_ | refine eg_in_normal ?_ | refine cg_ret ?_ | refine eg_then_ret ?_ | refine eg_in_ret ?_ | refine cg_exit ?_ | refine eg_then_exit ?_ | refine eg_in_exit ?_ | refine eg_in_other rfl ?_)
  refine cg_loop (fun (i : Nat) e k' => Le k1 k' ∧ i ≤ q ∧ e = [(5, .is (.int .i64 (mvTo l own i : Nat))), (6, .is (.map (some r))), (20, .is (.slice b q d)), (21, .is (.int .i64 (q : Int))), (22, .is (.int .i64 (i : Int)))])
    (fun i => q - i) 0 ⟨Le.refl _, Nat.zero_le _, rfl⟩ ⟨rfl, rfl, rfl, rfl, rfl, trivial⟩ ?_
  rintro i e k2 ⟨hle2, hi, rfl⟩
  repeat (first | refine cg_seq ?_ | refine cg_region ?_ | refine rg_nil ?_ | refine eg_then ?_ | refine qsp ?_ | refine qsn ?_ | refine qsa ?_ | refine qss ?_ | refine qsi ?_ | refine qsz ?_ | refine qsl ?_ | refine qsg ?_ | refine qsf ?_ | refine qsd ?_ | refine qse ?_ | refine qsx ?_ | refine qso ?_ | refine cg_cond_true rfl ?_ | refine cg_cond_false rfl ?_ | refine cg_skip ?_ | refine cg_block ?_ | refine eg_in_normal ?_ | refine cg_ret ?_ | refine eg_then_ret ?_ | refine eg_in_ret ?_ | refine cg_exit ?_ | refine eg_then_exit ?_ | refine eg_in_exit ?_ | refine eg_in_other rfl ?_)
  refine cg_cond rfl (fun h => ?_) (fun h => ?_)
  · have hlt : i < q := by simpa using h
    have hio : i < own.length := by omega
    have hil : i < l.length := by omega
    obtain ⟨os, hos⟩ : ∃ os, own[i]? = some os := ⟨_, List.getElem?_eq_getElem hio⟩
    have hge : (own.take q)[i]? = some os := by rw [List.getElem?_take, if_pos hlt]; exact hos
    obtain ⟨bx, ox, cx, rfl, ⟨ax, acx, rfl, hsx⟩, hcx⟩ := (ho1.le hle2).el i os hge
    have hgd : own.getD i [] = os := by rw [List.getD_eq_getElem?_getD, hos]; rfl
    have b5 := hsx.cap; have b6 := hsx.max; unfold maxLen at b6
    have hb1 := mvTo_le l own i
    have hb2 : lenTo own i + os.length ≤ 1000000 := by
      have := lenTo_mono own (i := i + 1) (j := q) hlt
      simp only [lenTo, hgd] at this
      omega
    repeat (first | refine cg_seq ?_ | refine cg_region ?_ | refine rg_nil ?_ | refine eg_then ?_ | refine qsp ?_ | refine qsn ?_ | refine qsa ?_ | refine qss ?_ | refine qsi ?_ | refine qsz ?_ | refine qsl ?_ | refine qsg ?_ | refine qsf ?_ | refine qsd ?_ | refine qse ?_ | refine qsx ?_ | refine qso ?_ | refine cg_cond_true rfl ?_ | refine cg_cond_false rfl ?_ | refine cg_skip ?_ | refine cg_block ?_ | refine eg_in_normal ?_ | refine cg_ret ?_ | refine eg_then_ret ?_ | refine eg_in_ret ?_ | refine cg_exit ?_ | refine eg_then_exit ?_ | refine eg_in_exit ?_ | refine eg_in_other rfl ?_)
    refine cg_loop (fun (p : Nat) e k' => Le k2 k' ∧ p ≤ os.length ∧ e = [(5, .is (.int .i64 ((mvTo l own i + (os.take p).countP (mvB l i) : Nat) : Int))), (6, .is (.map (some r))), (7, .is (.int .i64 (i : Int))), (20, .is (.slice (some ⟨bx, ox, none⟩) q d)), (21, .is (.int .i64 (q : Int))), (22, .is (.int .i64 (i : Int))), (27, .is (.slice ax os.length acx)), (28, .is (.int .i64 (os.length : Int))), (29, .is (.int .i64 (p : Int)))])
      (fun p => os.length - p) 0 ⟨Le.refl _, Nat.zero_le _, rfl⟩ ⟨rfl, rfl, rfl, rfl, rfl, rfl, rfl, rfl, rfl, trivial⟩ ?_
    rintro p e k3 ⟨hle3, hp, rfl⟩
    repeat (first | refine cg_seq ?_ | refine cg_region ?_ | refine rg_nil ?_ | refine eg_then ?_ | refine qsp ?_ | refine qsn ?_ | refine qsa ?_ | refine qss ?_ | refine qsi ?_ | refine qsz ?_ | refine qsl ?_ | refine qsg ?_ | refine qsf ?_ | refine qsd ?_ | refine qse ?_ | refine qsx ?_ | refine qso ?_ | refine cg_cond_true rfl ?_ | refine cg_cond_false rfl ?_ | refine cg_skip ?_ | refine cg_block ?_ | refine eg_in_normal ?_ | refine cg_ret ?_ | refine eg_then_ret ?_ | refine eg_in_ret ?_ | refine cg_exit ?_ | refine eg_then_exit ?_ | refine eg_in_exit ?_ | refine eg_in_other rfl ?_)
    refine cg_cond rfl (fun h1 => ?_) (fun h1 => ?_)
    · have hpt : p < os.length := by simpa using h1
      obtain ⟨by', oy, cy, rfl, rfl, hcy⟩ := (hsx.le hle3).el p os[p] (List.getElem?_eq_getElem hpt)
      have hcs := countP_take_succ (f := mvB l i) hpt
      have hcl : (os.take p).countP (mvB l i) ≤ p := Nat.le_trans List.countP_le_length (by rw [List.length_take]; omega)
      generalize htp : os[p] = tp at hcs hcy
      repeat (first | refine cg_seq ?_ | refine cg_region ?_ | refine rg_nil ?_ | refine eg_then ?_ | refine qsp ?_ | refine qsn ?_ | refine qsa ?_ | refine qss ?_ | refine qsi ?_ | refine qsz ?_ | refine qsl ?_ | refine qsg ?_ | refine qsf ?_ | refine qsd ?_ | refine qse ?_ | refine qsx ?_ | refine qso ?_ | refine cg_cond_true rfl ?_ | refine cg_cond_false rfl ?_ | refine cg_skip ?_ | refine cg_block ?_ | refine eg_in_normal ?_ | refine cg_ret ?_ | refine eg_then_ret ?_ | refine eg_in_ret ?_ | refine cg_exit ?_ | refine eg_then_exit ?_ | refine eg_in_exit ?_ | refine eg_in_other rfl ?_)
      refine rb rfl rfl rfl rfl (a_alloc rfl) ?_; intro b8 k8 hb8 hN8 hle8 hk8
      refine rw1 rfl rfl rfl rfl rfl rfl rfl hk8 rfl (.inl hN8) ?_ ?_; (simp [Tp.vs, memVs, Value.oneCell']); intro k9 ht9 hk9
      have hle9 := ht9 k3 hle8 hb8
      have c8 := cells_at (vs := tp.vs) hk9 rfl
      have hst9 := hst.le (hle2.trans (hle3.trans hle9))
      repeat (first | refine cg_seq ?_ | refine cg_region ?_ | refine rg_nil ?_ | refine eg_then ?_ | refine qsp ?_ | refine qsn ?_ | refine qsa ?_ | refine qss ?_ | refine qsi ?_ | refine qsz ?_ | refine qsl ?_ | refine qsg ?_ | refine qsf ?_ | refine qsd ?_ | refine qse ?_ | refine qsx ?_ | refine qso ?_ | refine cg_cond_true rfl ?_ | refine cg_cond_false rfl ?_ | refine cg_skip ?_ | refine cg_block ?_ | refine eg_in_normal ?_ | refine cg_ret ?_ | refine eg_then_ret ?_ | refine eg_in_ret ?_ | refine cg_exit ?_ | refine eg_then_exit ?_ | refine eg_in_exit ?_ | refine eg_in_other rfl ?_)
      refine rs rfl rfl (loc_det rfl (d_look (enc := keyT) (x := tp) hst9.out rfl rfl rfl)) ?_
      rcases own_mv hil hst9 hs tp with ⟨g1, g2, _⟩ | ⟨rt, S, g1, g2, g3, g4, _⟩
      · rw [g1, Option.getD_none]
        repeat (first | refine cg_seq ?_ | refine cg_region ?_ | refine rg_nil ?_ | refine eg_then ?_ | refine qsp ?_ | refine qsn ?_ | refine qsa ?_ | refine qss ?_ | refine qsi ?_ | refine qsz ?_ | refine qsl ?_ | refine qsg ?_ | refine qsf ?_ | refine qsd ?_ | refine qse ?_ | refine qsx ?_ | refine qso ?_ | refine cg_cond_true rfl ?_ | refine cg_cond_false rfl ?_ | refine cg_skip ?_ | refine cg_block ?_ | refine eg_in_normal ?_ | refine cg_ret ?_ | refine eg_then_ret ?_ | refine eg_in_ret ?_ | refine cg_exit ?_ | refine eg_then_exit ?_ | refine eg_in_exit ?_ | refine eg_in_other rfl ?_)
        refine rs rfl rfl (loc_det rfl (d_len_map_nil rfl rfl)) ?_
        repeat (first | refine cg_seq ?_ | refine cg_region ?_ | refine rg_nil ?_ | refine eg_then ?_ | refine qsp ?_ | refine qsn ?_ | refine qsa ?_ | refine qss ?_ | refine qsi ?_ | refine qsz ?_ | refine qsl ?_ | refine qsg ?_ | refine qsf ?_ | refine qsd ?_ | refine qse ?_ | refine qsx ?_ | refine qso ?_ | refine cg_cond_true rfl ?_ | refine cg_cond_false rfl ?_ | refine cg_skip ?_ | refine cg_block ?_ | refine eg_in_normal ?_ | refine cg_ret ?_ | refine eg_then_ret ?_ | refine eg_in_ret ?_ | refine cg_exit ?_ | refine eg_then_exit ?_ | refine eg_in_exit ?_ | refine eg_in_other rfl ?_)
        refine eg_again (p + 1) _ ⟨hle3.trans hle9, hpt, rfl⟩ (by omega) ⟨?_, rfl, rfl, rfl, rfl, rfl, rfl, rfl, rfl, trivial⟩
        rw [hcs, g2]
        rfl
      · rw [g1, Option.getD_some]
        have hpos : decide ((((S.map fun i => (i, Value.bool true)).length : Nat) : Int) > 0) = true := by
          have := List.length_pos_iff.2 g3
          simp
          omega
        repeat (first | refine cg_seq ?_ | refine cg_region ?_ | refine rg_nil ?_ | refine eg_then ?_ | refine qsp ?_ | refine qsn ?_ | refine qsa ?_ | refine qss ?_ | refine qsi ?_ | refine qsz ?_ | refine qsl ?_ | refine qsg ?_ | refine qsf ?_ | refine qsd ?_ | refine qse ?_ | refine qsx ?_ | refine qso ?_ | refine cg_cond_true rfl ?_ | refine cg_cond_false rfl ?_ | refine cg_skip ?_ | refine cg_block ?_ | refine eg_in_normal ?_ | refine cg_ret ?_ | refine eg_then_ret ?_ | refine eg_in_ret ?_ | refine cg_exit ?_ | refine eg_then_exit ?_ | refine eg_in_exit ?_ | refine eg_in_other rfl ?_)
        refine rs rfl rfl (loc_det rfl (d_maplen g2 rfl rfl)) ?_
        repeat (first | refine cg_seq ?_ | refine cg_region ?_ | refine rg_nil ?_ | refine eg_then ?_ | refine qsp ?_ | refine qsn ?_ | refine qsa ?_ | refine qss ?_ | refine qsi ?_ | refine qsz ?_ | refine qsl ?_ | refine qsg ?_ | refine qsf ?_ | refine qsd ?_ | refine qse ?_ | refine qsx ?_ | refine qso ?_ | refine cg_cond_true rfl ?_ | refine cg_cond_false rfl ?_ | refine cg_skip ?_ | refine cg_block ?_ | refine eg_in_normal ?_ | refine cg_ret ?_ | refine eg_then_ret ?_ | refine eg_in_ret ?_ | refine cg_exit ?_ | refine eg_then_exit ?_ | refine eg_in_exit ?_ | refine eg_in_other rfl ?_)
        rw [hpos]
        repeat (first | refine cg_seq ?_ | refine cg_region ?_ | refine rg_nil ?_ | refine eg_then ?_ | refine qsp ?_ | refine qsn ?_ | refine qsa ?_ | refine qss ?_ | refine qsi ?_ | refine qsz ?_ | refine qsl ?_ | refine qsg ?_ | refine qsf ?_ | refine qsd ?_ | refine qse ?_ | refine qsx ?_ | refine qso ?_ | refine cg_cond_true rfl ?_ | refine cg_cond_false rfl ?_ | refine cg_skip ?_ | refine cg_block ?_ | refine eg_in_normal ?_ | refine cg_ret ?_ | refine eg_then_ret ?_ | refine eg_in_ret ?_ | refine cg_exit ?_ | refine eg_then_exit ?_ | refine eg_in_exit ?_ | refine eg_in_other rfl ?_)
        refine rs rfl rfl (loc_det rfl (d_look (enc := keyI) (x := (i : Int)) g2 rfl rfl rfl)) ?_
        rw [kget_true]
        repeat (first | refine cg_seq ?_ | refine cg_region ?_ | refine rg_nil ?_ | refine eg_then ?_ | refine qsp ?_ | refine qsn ?_ | refine qsa ?_ | refine qss ?_ | refine qsi ?_ | refine qsz ?_ | refine qsl ?_ | refine qsg ?_ | refine qsf ?_ | refine qsd ?_ | refine qse ?_ | refine qsx ?_ | refine qso ?_ | refine cg_cond_true rfl ?_ | refine cg_cond_false rfl ?_ | refine cg_skip ?_ | refine cg_block ?_ | refine eg_in_normal ?_ | refine cg_ret ?_ | refine eg_then_ret ?_ | refine eg_in_ret ?_ | refine cg_exit ?_ | refine eg_then_exit ?_ | refine eg_in_exit ?_ | refine eg_in_other rfl ?_)
        refine cg_cond rfl (fun h2 => ?_) (fun h2 => ?_)
        · repeat (first | refine cg_seq ?_ | refine cg_region ?_ | refine rg_nil ?_ | refine eg_then ?_ | refine qsp ?_ | refine qsn ?_ | refine qsa ?_ | refine qss ?_ | refine qsi ?_ | refine qsz ?_ | refine qsl ?_ | refine qsg ?_ | refine qsf ?_ | refine qsd ?_ | refine qse ?_ | refine qsx ?_ | refine qso ?_ | refine cg_cond_true rfl ?_ | refine cg_cond_false rfl ?_ | refine cg_skip ?_ | refine cg_block ?_ | refine eg_in_normal ?_ | refine cg_ret ?_ | refine eg_then_ret ?_ | refine eg_in_ret ?_ | refine cg_exit ?_ | refine eg_then_exit ?_ | refine eg_in_exit ?_ | refine eg_in_other rfl ?_)
          refine eg_again (p + 1) _ ⟨hle3.trans hle9, hpt, rfl⟩ (by omega) ⟨?_, rfl, rfl, rfl, rfl, rfl, rfl, rfl, rfl, trivial⟩
          rw [hcs, g4, h2]
          rfl
        · repeat (first | refine cg_seq ?_ | refine cg_region ?_ | refine rg_nil ?_ | refine eg_then ?_ | refine qsp ?_ | refine qsn ?_ | refine qsa ?_ | refine qss ?_ | refine qsi ?_ | refine qsz ?_ | refine qsl ?_ | refine qsg ?_ | refine qsf ?_ | refine qsd ?_ | refine qse ?_ | refine qsx ?_ | refine qso ?_ | refine cg_cond_true rfl ?_ | refine cg_cond_false rfl ?_ | refine cg_skip ?_ | refine cg_block ?_ | refine eg_in_normal ?_ | refine cg_ret ?_ | refine eg_then_ret ?_ | refine eg_in_ret ?_ | refine cg_exit ?_ | refine eg_then_exit ?_ | refine eg_in_exit ?_ | refine eg_in_other rfl ?_)
          refine eg_again (p + 1) _ ⟨hle3.trans hle9, hpt, rfl⟩ (by omega) ⟨?_, rfl, rfl, rfl, rfl, rfl, rfl, rfl, rfl, trivial⟩
          rw [hcs, g4, h2]
          rfl
    · have hpl : p = os.length := by simp at h1; omega
      repeat (first | refine cg_seq ?_ | refine cg_region ?_ | refine rg_nil ?_ | refine eg_then ?_ | refine qsp ?_ | refine qsn ?_ | refine qsa ?_ | refine qss ?_ | refine qsi ?_ | refine qsz ?_ | refine qsl ?_ | refine qsg ?_ | refine qsf ?_ | refine qsd ?_ | refine qse ?_ | refine qsx ?_ | refine qso ?_ | refine cg_cond_true rfl ?_ | refine cg_cond_false rfl ?_ | refine cg_skip ?_ | refine cg_block ?_ | refine eg_in_normal ?_ | refine cg_ret ?_ | refine eg_then_ret ?_ | refine eg_in_ret ?_ | refine cg_exit ?_ | refine eg_then_exit ?_ | refine eg_in_exit ?_ | refine eg_in_other rfl ?_)
      refine eg_again (i + 1) _ ⟨hle2.trans hle3, hlt, rfl⟩ (by omega) ⟨?_, rfl, rfl, rfl, rfl, trivial⟩
      simp only [mvTo, hgd]
      rw [hpl, List.take_length]
      rfl
  · have hiq : i = q := by simp at h; omega
    subst hiq
    repeat (first | refine cg_seq ?_ | refine cg_region ?_ | refine rg_nil ?_ | refine eg_then ?_ | refine qsp ?_ | refine qsn ?_ | refine qsa ?_ | refine qss ?_ | refine qsi ?_ | refine qsz ?_ | refine qsl ?_ | refine qsg ?_ | refine qsf ?_ | refine qsd ?_ | refine qse ?_ | refine qsx ?_ | refine qso ?_ | refine cg_cond_true rfl ?_ | refine cg_cond_false rfl ?_ | refine cg_skip ?_ | refine cg_block ?_ | refine eg_in_normal ?_ | refine cg_ret ?_ | refine eg_then_ret ?_ | refine eg_in_ret ?_ | refine cg_exit ?_ | refine eg_then_exit ?_ | refine eg_in_exit ?_ | refine eg_in_other rfl ?_)
    refine eg_return rfl rfl ?_
    rw [movesM, hq]
end Go.Wm

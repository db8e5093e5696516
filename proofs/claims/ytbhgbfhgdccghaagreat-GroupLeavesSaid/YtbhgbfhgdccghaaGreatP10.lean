/-
  Round, the program's. Conditions: that what is handed in reads as data.
-/
import Derived.Test.YtbhgbfhgdccghaaGreatP7
import Derived.Test.YtbhgbfhgdccghaaGreatP8
import Derived.Test.YtbhgbfhgdccghaaGreatP9
set_option linter.all false
namespace Go.Wm
open Go.RowKit Go.Proofs
attribute [local irreducible] RG CG EG WA Loc Det Alc CT Exit.then Exit.inBlock Code.wp bodyPost
/-- It moves: another one has it. -/
def mvB (l : List Member) (i : Nat) (tp : Tp) : Bool := !decide (tp ∈ ((l[i]?).map (·.own)).getD []) && l.any fun m => decide (tp ∈ m.own)
theorem own_mv {l : List Member} {i : Nat} (h : i < l.length) {D : List (Tp × Nat × List Int)} {k : PH} {r : Nat} (hst : OwnSt k r D) (hs : Sets D (HasR l l.length)) (tp : Tp) :
    (kget tp (D.map fun d => (d.1, Value.map (some d.2.1))) = none ∧ mvB l i tp = false ∧ ∀ j (hj : j < l.length), tp ∉ l[j].own) ∨
    ∃ rt S, kget tp (D.map fun d => (d.1, Value.map (some d.2.1))) = some (.map (some rt)) ∧ MapAt keyI k rt (S.map fun i => (i, Value.bool true)) ∧ S ≠ [] ∧ mvB l i tp = !decide ((i : Int) ∈ S) ∧ ((i : Int) ∈ S ↔ tp ∈ l[i].own) := by
  rcases own_look hst hs tp with ⟨h1, h2⟩ | ⟨rt, S, h1, h2, h3, h4⟩
  · have hno : ∀ j (hj : j < l.length), tp ∉ l[j].own := fun j hj hm => h2 (j : Int) ⟨j, rfl, hj, hj, hm⟩
    refine .inl ⟨h1, ?_, hno⟩
    have : l.any (fun m => decide (tp ∈ m.own)) = false := by
      rw [List.any_eq_false]
      intro m hm
      obtain ⟨j, hj⟩ := List.getElem?_of_mem hm
      have hjl : j < l.length := (List.getElem?_eq_some_iff.1 hj).1
      have e := (List.getElem?_eq_some_iff.1 hj).2
      simp [← e, hno j hjl]
    simp only [mvB, this, Bool.and_false]
  · have hi : ((i : Int) ∈ S ↔ tp ∈ l[i].own) := by
      rw [h4]
      constructor
      · rintro ⟨j, e, _, hj, hm⟩
        have : j = i := by omega
        subst this
        exact hm
      · exact fun hm => ⟨i, rfl, h, h, hm⟩
    refine .inr ⟨rt, S, h1, h2, h3, ?_, hi⟩
    have hany : l.any (fun m => decide (tp ∈ m.own)) = true := by
      obtain ⟨x, hx⟩ := List.exists_mem_of_ne_nil S h3
      obtain ⟨j, _, _, hj, hm⟩ := (h4 x).1 hx
      rw [List.any_eq_true]
      exact ⟨l[j], List.getElem_mem hj, by simpa using hm⟩
    simp only [mvB, hany, Bool.and_true, List.getElem?_eq_getElem h, Option.map_some, Option.getD_some]
    congr 1
    rw [Bool.eq_iff_iff]
    simpa using hi.symm

theorem sls_tpok {k : PH} {a : Option Addr} {c : Nat} {l : List (List Tp)} (h : Sl (tSl tTp) k a c l) : ∀ r ∈ l, ∀ x ∈ r, x.ok := fun r hr => by
  obtain ⟨i, hi⟩ := List.getElem?_of_mem hr
  obtain ⟨_, _, _, _, ⟨_, _, _, hs⟩, _⟩ := h.el i r hi
  exact sl_tpok hs
attribute [local irreducible] WF LocG

/-- It may have it: nobody has it, or it has it. -/
def giveB (l : List Member) (i : Nat) (tp : Tp) : Bool := decide (tp ∈ ((l[i]?).map (·.own)).getD []) || !l.any fun m => decide (tp ∈ m.own)
def rsR (l : List Member) (target : List (List Tp)) (i p : Nat) : List (List Tp) := (List.range l.length).map fun j => if j < i then (target.getD j []).filter (giveB l j) else if j = i then ((target.getD i []).take p).filter (giveB l i) else []
def roundM (l : List Member) (target : List (List Tp)) : List (List Tp) := (List.range l.length).map fun j => (target.getD j []).filter (giveB l j)
theorem roundM_sub {l : List Member} {target : List (List Tp)} {r : List Tp} {x : Tp} (hr : r ∈ roundM l target) (hx : x ∈ r) : ∃ t ∈ target, x ∈ t := by
  unfold roundM at hr
  obtain ⟨j, _, rfl⟩ := List.mem_map.1 hr
  obtain ⟨hx, _⟩ := List.mem_filter.1 hx
  rw [List.getD_eq_getElem?_getD] at hx
  cases h : target[j]? with
  | none => rw [h] at hx; cases hx
  | some t => rw [h] at hx; exact ⟨t, List.mem_of_getElem? h, hx⟩
theorem rsR_len (l : List Member) (target : List (List Tp)) (i p : Nat) : (rsR l target i p).length = l.length := by simp [rsR]
theorem rsR_get {l : List Member} {target : List (List Tp)} {i p j : Nat} (h : j < l.length) : (rsR l target i p)[j]? = some (if j < i then (target.getD j []).filter (giveB l j) else if j = i then ((target.getD i []).take p).filter (giveB l i) else []) := by simp [rsR, h]
theorem rsR_zero (l : List Member) (target : List (List Tp)) : rsR l target 0 0 = List.replicate l.length [] := by
  apply List.ext_getElem?
  intro j
  by_cases h : j < l.length
  · rw [rsR_get h]
    simp [h]
  · rw [List.getElem?_eq_none (by rw [rsR_len]; omega), List.getElem?_eq_none (by simp; omega)]
theorem rsR_row {l : List Member} {target : List (List Tp)} {i : Nat} : rsR l target i (target.getD i []).length = rsR l target (i + 1) 0 := by
  apply List.ext_getElem?
  intro j
  by_cases h : j < l.length
  · rw [rsR_get h, rsR_get h, List.take_length]
    congr 1
    by_cases h1 : j < i
    · rw [if_pos h1, if_pos (by omega)]
    · rw [if_neg h1]
      by_cases h2 : j = i
      · subst h2
        rw [if_pos rfl, if_pos (by omega)]
      · rw [if_neg h2, if_neg (by omega)]
        simp
  · rw [List.getElem?_eq_none (by rw [rsR_len]; omega), List.getElem?_eq_none (by rw [rsR_len]; omega)]
theorem rsR_all (l : List Member) (target : List (List Tp)) : rsR l target l.length 0 = roundM l target := by
  unfold rsR roundM
  apply List.map_congr_left
  intro j hj
  rw [List.mem_range] at hj
  rw [if_pos hj]
theorem rsR_step {l : List Member} {target : List (List Tp)} {i p : Nat} (hi : i < l.length) {os : List Tp} (hos : target.getD i [] = os) (hp : p < os.length) :
    rsR l target i (p + 1) = if giveB l i os[p] then (rsR l target i p).set i ((os.take p).filter (giveB l i) ++ [os[p]]) else rsR l target i p := by
  apply List.ext_getElem?
  intro j
  by_cases h : j < l.length
  · rw [rsR_get h, hos, List.take_succ_eq_append_getElem hp, List.filter_append]
    by_cases hg : giveB l i os[p] = true
    · rw [if_pos hg, List.getElem?_set, rsR_len]
      by_cases hij : i = j
      · subst hij
        simp [hi, hg]
      · rw [if_neg hij, rsR_get h, if_neg (Ne.symm hij), if_neg (Ne.symm hij)]
    · rw [if_neg hg, rsR_get h, hos]
      simp [hg]
  · rw [List.getElem?_eq_none (by rw [rsR_len]; omega)]
    split
    · rw [List.getElem?_eq_none (by rw [List.length_set, rsR_len]; omega)]
    · rw [List.getElem?_eq_none (by rw [rsR_len]; omega)]
/-- May they be shared so? -/
def okRnd (l : List Member) (target : List (List Tp)) : Bool := okM l && (decide (target.length = l.length) && decide target.flatten.Nodup)
/-- What Round hands back. -/
structure RndR (l : List Member) (target r : List (List Tp)) (er : Int) : Prop where
  no : okRnd l target = false → r = [] ∧ er = 1
  yes : okRnd l target = true → er = 0 ∧ r = roundM l target
theorem own_give {l : List Member} {i : Nat} (h : i < l.length) {D : List (Tp × Nat × List Int)} {k : PH} {r : Nat} (hst : OwnSt k r D) (hs : Sets D (HasR l l.length)) (tp : Tp) :
    (kget tp (D.map fun d => (d.1, Value.map (some d.2.1))) = none ∧ giveB l i tp = true) ∨
    ∃ rt S, kget tp (D.map fun d => (d.1, Value.map (some d.2.1))) = some (.map (some rt)) ∧ MapAt keyI k rt (S.map fun i => (i, Value.bool true)) ∧ S ≠ [] ∧ giveB l i tp = decide ((i : Int) ∈ S) := by
  rcases own_mv h hst hs tp with ⟨h1, h2, h3⟩ | ⟨rt, S, h1, h2, h3, h4, h5⟩
  · refine .inl ⟨h1, ?_⟩
    have : l.any (fun m => decide (tp ∈ m.own)) = false := by
      rw [List.any_eq_false]
      intro m hm
      obtain ⟨j, hj⟩ := List.getElem?_of_mem hm
      have hjl : j < l.length := (List.getElem?_eq_some_iff.1 hj).1
      have e := (List.getElem?_eq_some_iff.1 hj).2
      simp [← e, h3 j hjl]
    simp only [giveB, this, Bool.not_false, Bool.or_true]
  · refine .inr ⟨rt, S, h1, h2, h3, ?_⟩
    simp only [giveB, mvB, List.getElem?_eq_getElem h, Option.map_some, Option.getD_some] at h4 ⊢
    by_cases hm : tp ∈ l[i].own
    · have hS := h5.2 hm
      simp [hm, hS]
    · have hS : ¬ (i : Int) ∈ S := fun h => hm (h5.1 h)
      simp only [hm, hS, decide_false, Bool.not_false, Bool.true_and, Bool.false_or] at h4 ⊢
      rw [h4]
      rfl
theorem concat_mono {own : List (List Tp)} (k k' : PH) (v : Value) (hle : Le k k') : (∃ a' c', v = .slice a' own.flatten.length c' ∧ Sl tTp k a' c' own.flatten) → ∃ a' c', v = .slice a' own.flatten.length c' ∧ Sl tTp k' a' c' own.flatten := fun ⟨a, c, h1, h2⟩ => ⟨a, c, h1, h2.le hle⟩
theorem rnd_mono {l : List Member} {target : List (List Tp)} (k k' : PH) (v : Value) (hle : Le k k') : (∃ a c r er, v = .tuple #[.slice a r.length c, .int .i64 er] ∧ Sl (tSl tTp) k a c r ∧ RndR l target r er) → ∃ a c r er, v = .tuple #[.slice a r.length c, .int .i64 er] ∧ Sl (tSl tTp) k' a c r ∧ RndR l target r er :=
  fun ⟨a, c, r, er, h1, h2, h3⟩ => ⟨a, c, r, er, h1, h2.le hle, h3⟩
theorem own_mono {l : List Member} (k k' : PH) (v : Value) (hle : Le k k') : (∃ r D, v = .map (some r) ∧ OwnSt k r D ∧ Sets D (HasR l l.length)) → ∃ r D, v = .map (some r) ∧ OwnSt k' r D ∧ Sets D (HasR l l.length) := fun ⟨r, D, h1, h2, h3⟩ => ⟨r, D, h1, h2.le hle, h3⟩
/-- What is known but of one block. -/
def delB (k : PH) (b : Nat) : PH := fun i => if i = b then none else k i
theorem delB_le (k : PH) (b : Nat) : Le (delB k b) k := fun i o h => by
  unfold delB at h
  split at h
  · cases h
  · exact h
theorem delB_own (k : PH) (b : Nat) : delB k b b = none := by simp [delB]
theorem le_delB {h k : PH} {b : Nat} (hl : Le h k) (hb : h b = none) : Le h (delB k b) := fun i o hi => by
  have hne : i ≠ b := by rintro rfl; rw [hb] at hi; cases hi
  simp only [delB, hne, if_false]
  exact hl i o hi
theorem OwnSt.out_of {k : PH} {r : Nat} {D : List (Tp × Nat × List Int)} (h : OwnSt k r D) (b : Nat) (hb : ∃ c et, k b = some (.cells c et (0, 0))) : OwnSt (delB k b) r D := by
  obtain ⟨c, et, hb⟩ := hb
  have key : ∀ {α : Type} [DecidableEq α] {enc : α → Value} {q : Nat} {kv : List (α × Value)}, MapAt enc k q kv → MapAt enc (delB k b) q kv := by
    rintro α _ enc q kv ⟨es, cl, h1, h2⟩
    refine ⟨es, cl, ?_, h2⟩
    have hne : q ≠ b := by rintro rfl; rw [hb] at h1; cases h1
    simp only [delB, hne, if_false]
    exact h1
  exact ⟨key h.out, fun d hd => key (h.inn d hd), h.keys⟩
theorem slnil {α : Type} (T : Ty α) (k : PH) : Sl T k none 0 [] := ⟨by simp, by simp [maxLen], fun _ => rfl, by simp, by simp⟩
set_option maxHeartbeats 2000000 in
theorem round_ct {k : PH} {a b : Option Addr} {c d : Nat} {l : List Member} {target : List (List Tp)} (hl : Sl tMember k a c l) (ht : Sl (tSl tTp) k b d target) (hb : l.length ≤ 1000000) (hsum : target.length = l.length → lenTo target target.length ≤ 1000000) :
    CT Tryz.prog 32 #[.slice a l.length c, .slice b target.length d] k (fun k' v => ∃ a c r er, v = .tuple #[.slice a r.length c, .int .i64 er] ∧ Sl (tSl tTp) k' a c r ∧ RndR l target r er) := by
  refine ct_of_body (l := [_, _]) Tryz.func32 rfl Tryz.ntmps32 (by simp) rnd_mono fun F hF0 hFm => ?_
  have b1 := hl.cap; have b2 := hl.max; unfold maxLen at b2
  have b3 := ht.cap; have b4 := ht.max; unfold maxLen at b4
  have hmc : CT Tryz.prog 69 #[.slice a l.length c] k (fun _ v => v = .bool (okM l)) := members_ct hl (by omega)
  have bad : okRnd l target = false → ∀ k', ∃ a c r er, Value.tuple #[.slice none 0 0, .int .i64 1] = .tuple #[.slice a r.length c, .int .i64 er] ∧ Sl (tSl tTp) k' a c r ∧ RndR l target r er := fun h k' =>
    ⟨none, 0, [], 1, rfl, slnil _ _, fun _ => ⟨rfl, rfl⟩, fun h' => by rw [h] at h'; cases h'⟩
  repeat (first | refine cg_seq ?_ | refine cg_region ?_ | refine rg_nil ?_ | refine eg_then ?_ | refine qsp ?_)
  cases hM : okM l with
  | false =>
    rw [hM] at hmc
    refine rs rfl rfl (loc_call_is rfl rfl rfl rfl (hmc)) ?_
    repeat (first | refine cg_seq ?_ | refine cg_region ?_ | refine rg_nil ?_ | refine eg_then ?_ | refine qsp ?_ | refine qso ?_ | refine cg_cond_true rfl ?_ | refine cg_ret ?_ | refine eg_then_ret ?_)
    exact eg_return2 rfl rfl rfl (bad (by simp [okRnd, hM]) _)
  | true =>
  rw [hM] at hmc
  refine rs rfl rfl (loc_call_is rfl rfl rfl rfl (hmc)) ?_
  repeat (first | refine qsp ?_ | refine qsn ?_)
  by_cases hlen : target.length = l.length
  · have q1 : ((target.length : Int) != (l.length : Int)) = false := by simp [hlen]
    rw [q1]
    repeat (first | refine qsp ?_)
    refine rv rfl rfl rfl (loc_call rfl rfl rfl rfl concat_mono (concat_ct ht (hsum hlen))) ?_
    rintro k1 hle1 _ ⟨fa, fc, rfl, hf⟩
    have hal := alikeTp_ct hf
    by_cases hnd : target.flatten.Nodup
    · have hok : okRnd l target = true := by simp [okRnd, hM, hlen, hnd]
      rw [decide_eq_true hnd] at hal
      skip
      refine rs rfl rfl (loc_call_is rfl rfl rfl rfl (hal)) ?_
      repeat (first | refine cg_seq ?_ | refine rg_nil ?_ | refine eg_then ?_ | refine qsp ?_ | refine cg_cond_false rfl ?_ | refine cg_skip ?_)
      refine cg_fresh 7 [] (by kernel_rfl) (by kernel_rfl) rfl rfl rfl ?_
      repeat (first | refine qfp ?_)
      refine fs_v rfl (loc_call rfl rfl rfl rfl own_mono (owners_ct (hl.le hle1))) rfl ?_
      repeat (first | refine qfp ?_ | refine qfn ?_)
      refine fs_newN rfl rfl (a_makeSlice (m := l.length) (c := l.length) rfl rfl rfl (Nat.le_refl _) (by omega) (by omega)) (fun _ => rfl) ?_
      refine fs_copy rfl rfl (.inl rfl) rfl own_mono rfl ?_
      refine fs_copy rfl rfl (.inl rfl) rfl newN_mono rfl ?_
      refine fs_nil ?_
      intro k2 vs hle2 hvs _ _
      obtain ⟨r, D, er, hst, hs⟩ := hvs 6 _ rfl
      obtain ⟨bo, eo, hkbo, hnbo, hNbo⟩ := hvs 7 _ rfl
      simp only [nameE, nameP, argEnv, er, eo]
      clear hvs
      have hk2' : k2 bo = some (.cells (List.replicate l.length (Value.slice none 0 0)).toArray 25 (0, 0)) := by
        rw [hkbo, made_nils]
      have hle02 := hle1.trans hle2
      have hst1 : OwnSt (delB k2 bo) r D := hst.out_of bo ⟨_, _, hkbo⟩
      have rows0 := rows_nil Tp.vs (et := 53) (sz := 3) (h := delB k2 bo) l.length (delB_le _ _) (delB_own _ _) hNbo hk2'
      rw [← rsR_zero l target] at rows0
      have hlk : Le k (delB k2 bo) := hle1.trans (le_delB hle2 hnbo)
      show RG _ _ _ _ _ [] _ _
      repeat (first | refine cg_seq ?_ | refine cg_region ?_ | refine rg_nil ?_ | refine eg_then ?_ | refine qsp ?_ | refine qsn ?_ | refine cg_block ?_)
      refine cg_loop (fun (i : Nat) e k' => ∃ vs, RowsOf Tp.vs F.w0.heap.size 53 3 25 bo (delB k2 bo) k' vs (rsR l target i 0) ∧ i ≤ target.length ∧ e = [(6, .is (.map (some r))), (7, .is (.slice (some ⟨bo, 0, none⟩) l.length l.length)), (33, .is (.slice b target.length d)), (34, .is (.int .i64 (target.length : Int))), (35, .is (.int .i64 (i : Int)))])
        (fun i => target.length - i) 0 ⟨_, rows0, Nat.zero_le _, rfl⟩ ⟨rfl, rfl, rfl, rfl, rfl, trivial⟩ ?_
      rintro i e k3 ⟨vs, rows3, hi, rfl⟩
      repeat (first | refine cg_seq ?_ | refine cg_region ?_ | refine rg_nil ?_ | refine eg_then ?_ | refine qsp ?_)
      refine cg_cond rfl (fun h => ?_) (fun h => ?_)
      · have hlt : i < target.length := by simpa using h
        have hil : i < l.length := by omega
        obtain ⟨os, hos⟩ : ∃ os, target[i]? = some os := ⟨_, List.getElem?_eq_getElem hlt⟩
        have hgd : target.getD i [] = os := by rw [List.getD_eq_getElem?_getD, hos]; rfl
        obtain ⟨bx, ox, cx, rfl, ⟨ax, acx, rfl, hsx⟩, hcx0⟩ := (ht.le hlk).el i os hos
        have hcx := hcx0.le rows3.le
        have b5 := hsx.cap; have b6 := hsx.max; unfold maxLen at b6
        have hbd : os.length ≤ 1000000 := by
          have h1 := lenTo_mono target (i := i + 1) (j := target.length) hlt
          simp only [lenTo, hgd] at h1
          have := hsum hlen
          omega
        have hrow := rsR_row (l := l) (target := target) (i := i)
        rw [hgd] at hrow
        repeat (first | refine cg_seq ?_ | refine cg_region ?_ | refine rg_nil ?_ | refine eg_then ?_ | refine qsp ?_ | refine qsn ?_ | refine qsi ?_ | refine qsl ?_ | refine cg_skip ?_ | refine cg_block ?_)
        refine cg_loop (fun (p : Nat) e k' => ∃ vs, RowsOf Tp.vs F.w0.heap.size 53 3 25 bo (delB k2 bo) k' vs (rsR l target i p) ∧ p ≤ os.length ∧ e = [(6, .is (.map (some r))), (7, .is (.slice (some ⟨bo, 0, none⟩) l.length l.length)), (8, .is (.int .i64 (i : Int))), (33, .is (.slice (some ⟨bx, ox, none⟩) target.length d)), (34, .is (.int .i64 (target.length : Int))), (35, .is (.int .i64 (i : Int))), (40, .is (.slice ax os.length acx)), (41, .is (.int .i64 (os.length : Int))), (42, .is (.int .i64 (p : Int)))])
          (fun p => os.length - p) 0 ⟨vs, rows3, Nat.zero_le _, rfl⟩ ⟨rfl, rfl, rfl, rfl, rfl, rfl, rfl, rfl, rfl, trivial⟩ ?_
        clear rows3 hcx vs
        rintro p e k4 ⟨vs, rows4, hp, rfl⟩
        repeat (first | refine cg_seq ?_ | refine cg_region ?_ | refine rg_nil ?_ | refine eg_then ?_ | refine qsp ?_)
        refine cg_cond rfl (fun h1 => ?_) (fun h1 => ?_)
        · have hpt : p < os.length := by simpa using h1
          have hstep := rsR_step hil hgd hpt
          generalize htp : os[p] = tp at hstep
          obtain ⟨by', oy, cy, rfl, ⟨rfl, _⟩, hcy⟩ := (hsx.le rows4.le).el p tp (by rw [← htp]; exact List.getElem?_eq_getElem hpt)
          repeat (first | refine cg_seq ?_ | refine cg_region ?_ | refine eg_then ?_ | refine qsi ?_ | refine qsg ?_ | refine cg_skip ?_ | refine cg_block ?_)
          refine rb rfl rfl rfl rfl (a_alloc rfl) ?_; intro b8 k8 hb8 hN8 hle8 hk8
          refine rw1 rfl rfl rfl rfl rfl rfl rfl hk8 rfl (.inl hN8) ?_ ?_; (simp [Tp.vs, Member.cs, Group.cs, Value.oneCell']); intro k9 ht9 hk9
          have hle9 := ht9 k4 hle8 hb8
          have c8 := cells_at (vs := tp.vs) hk9 rfl
          have rows := rows4.up hle9
          have hst9 := hst1.le rows.le
          repeat (first | refine cg_seq ?_ | refine cg_region ?_ | refine rg_nil ?_ | refine eg_then ?_ | refine qsp ?_ | refine qsg ?_)
          refine rs rfl rfl (loc_det rfl (d_look (enc := keyT) (x := tp) hst9.out rfl rfl rfl)) ?_
          have hvl : i < vs.length := by rw [rows.len, rsR_len]; exact hil
          have hv : vs[i]? = some vs[i] := List.getElem?_eq_getElem hvl
          have hr : (rsR l target i p)[i]? = some ((os.take p).filter (giveB l i)) := by
            rw [rsR_get hil, if_neg (by omega), if_pos rfl, hgd]
          generalize hvv : vs[i] = v at hv
          obtain ⟨hrow4, _, _⟩ := rows4.row i v _ hv hr
          obtain ⟨hrw, hap, hvb⟩ := rows.row i v _ hv hr
          have hd := le_delV rows.le hap
          have hvb9 : v.ownBlock ≠ some b8 := fun hg => by
            obtain ⟨_, ob, ho⟩ := hrow4.block hg
            rw [hb8] at ho
            cases ho
          have ct : Cells (delV k9 v) b8 0 tp.vs := c8.delV hvb9
          have cbo : Cells (delV k9 v) bo (0 + i * 1) [v] := by
            refine Cells.delV ⟨vs.toArray, 25, (0, 0), rows.at', fun j u hu => ?_⟩ hvb
            have hj : j = 0 := by
              have := (List.getElem?_eq_some_iff.1 hu).1
              simp at this
              exact this
            subst hj
            simp at hu
            subst hu
            simp [hv]
          have hrl : ((os.take p).filter (giveB l i)).length ≤ 1000000 := by
            have := List.length_filter_le (giveB l i) (os.take p)
            rw [List.length_take] at this
            omega
          generalize hrr : (os.take p).filter (giveB l i) = rr at hr hrw hrl hstep
          rcases own_give hil hst9 hs tp with ⟨g1, g2⟩ | ⟨rt, S, g1, g2, g3, g4⟩
          · rw [g1, Option.getD_none]
            rw [g2, if_pos rfl] at hstep
            repeat (first | refine cg_seq ?_ | refine cg_region ?_ | refine rg_nil ?_ | refine eg_then ?_ | refine qsp ?_)
            refine rs rfl rfl (loc_det rfl (d_len_map_nil rfl rfl)) ?_
            repeat (first | refine rg_nil ?_ | refine eg_then ?_ | refine qsp ?_ | refine qso ?_ | refine cg_cond_true rfl ?_)
            refine cg_app v hrw rfl (by kernel_rfl) (by kernel_rfl) rfl rfl (m' := rr.length + 1) (xs' := rr.flatMap Tp.vs ++ tp.vs) ?_
            repeat (first | refine qvp ?_ | refine qvi ?_ | refine qvl ?_ | refine qvg ?_)
            refine we_v rfl (loc_alloc rfl (a_slice rfl rfl rfl rfl (by kernel_rfl) rfl)) ?_
            refine we_app rfl rfl rfl rfl rfl (fun k1 u _ ⟨b, hu, hkb, _⟩ => ⟨b, 0, 1, hu, cells_at hkb rfl⟩) rfl (by simp [Tp.vs, Value.oneCell']) rfl rfl (by unfold maxLen; omega) (by omega) ?_
            repeat (first | refine qvi ?_)
            refine we_nil ⟨65, _, [(6, .is (.map (some r))), (7, .is (.slice (some ⟨bo, 0, none⟩) l.length l.length)), (8, .is (.int .i64 (i : Int))), (33, .is (.slice (some ⟨bx, ox, none⟩) target.length d)), (34, .is (.int .i64 (target.length : Int))), (35, .is (.int .i64 (i : Int))), (40, .is (.slice (some ⟨by', oy, none⟩) os.length acx)), (41, .is (.int .i64 (os.length : Int))), (42, .is (.int .i64 (p : Int))), (66, .is (.pointer (some ⟨bo, 0 + i * 1, none⟩)))], rfl, rfl, rfl, ⟨rfl, rfl, rfl, rfl, rfl, rfl, rfl, rfl, rfl, rfl, trivial⟩, fun v' k11 hrow11 ht11 => ?_⟩
            obtain ⟨hk11, hnext⟩ := rows.turn hv hr tp hrow11 ht11
            refine rw0 rfl rfl rfl rfl rfl rfl ?_ rfl hk11 ?_ (.inl hNbo) ?_
            · obtain ⟨_, h5⟩ := hrow11
              rcases h5 with ⟨rfl, _⟩ | ⟨g, cap, cur, rfl, _⟩ <;> rfl
            · simp; omega
            intro k12 ht12 hk12
            simp only [Nat.zero_add, Nat.mul_one] at hk12
            have rows12 := hnext k12 ht12 hk12
            rw [← hstep] at rows12
            repeat (first | refine cg_region ?_ | refine rg_nil ?_ | refine eg_then ?_ | refine qsp ?_ | refine qsa ?_ | refine eg_in_normal ?_)
            exact eg_again (p + 1) _ ⟨_, rows12, hpt, rfl⟩ (by omega) ⟨rfl, rfl, rfl, rfl, rfl, rfl, rfl, rfl, rfl, trivial⟩
          · rw [g1, Option.getD_some]
            have hpos : ((((S.map fun i => (i, Value.bool true)).length : Nat) : Int) == 0) = false := by
              have := List.length_pos_iff.2 g3
              simp
              exact g3
            repeat (first | refine cg_seq ?_ | refine cg_region ?_ | refine rg_nil ?_ | refine eg_then ?_ | refine qsp ?_)
            refine rs rfl rfl (loc_det rfl (d_maplen g2 rfl rfl)) ?_
            repeat (first | refine qsp ?_)
            rw [hpos]
            repeat (first | refine qsp ?_)
            refine rs rfl rfl (loc_det rfl (d_look (enc := keyI) (x := (i : Int)) g2 rfl rfl rfl)) ?_
            rw [kget_true]
            repeat (first | refine rg_nil ?_ | refine eg_then ?_ | refine qsp ?_)
            refine cg_cond rfl (fun h2 => ?_) (fun h2 => ?_)
            · rw [g4, h2, if_pos rfl] at hstep
              skip
              refine cg_app v hrw rfl (by kernel_rfl) (by kernel_rfl) rfl rfl (m' := rr.length + 1) (xs' := rr.flatMap Tp.vs ++ tp.vs) ?_
              repeat (first | refine qvp ?_ | refine qvi ?_ | refine qvl ?_ | refine qvg ?_)
              refine we_v rfl (loc_alloc rfl (a_slice rfl rfl rfl rfl (by kernel_rfl) rfl)) ?_
              refine we_app rfl rfl rfl rfl rfl (fun k1 u _ ⟨b, hu, hkb, _⟩ => ⟨b, 0, 1, hu, cells_at hkb rfl⟩) rfl (by simp [Tp.vs, Value.oneCell']) rfl rfl (by unfold maxLen; omega) (by omega) ?_
              repeat (first | refine qvi ?_)
              refine we_nil ⟨65, _, [(6, .is (.map (some r))), (7, .is (.slice (some ⟨bo, 0, none⟩) l.length l.length)), (8, .is (.int .i64 (i : Int))), (33, .is (.slice (some ⟨bx, ox, none⟩) target.length d)), (34, .is (.int .i64 (target.length : Int))), (35, .is (.int .i64 (i : Int))), (40, .is (.slice (some ⟨by', oy, none⟩) os.length acx)), (41, .is (.int .i64 (os.length : Int))), (42, .is (.int .i64 (p : Int))), (66, .is (.pointer (some ⟨bo, 0 + i * 1, none⟩)))], rfl, rfl, rfl, ⟨rfl, rfl, rfl, rfl, rfl, rfl, rfl, rfl, rfl, rfl, trivial⟩, fun v' k11 hrow11 ht11 => ?_⟩
              obtain ⟨hk11, hnext⟩ := rows.turn hv hr tp hrow11 ht11
              refine rw0 rfl rfl rfl rfl rfl rfl ?_ rfl hk11 ?_ (.inl hNbo) ?_
              · obtain ⟨_, h5⟩ := hrow11
                rcases h5 with ⟨rfl, _⟩ | ⟨g, cap, cur, rfl, _⟩ <;> rfl
              · simp; omega
              intro k12 ht12 hk12
              simp only [Nat.zero_add, Nat.mul_one] at hk12
              have rows12 := hnext k12 ht12 hk12
              rw [← hstep] at rows12
              repeat (first | refine cg_region ?_ | refine rg_nil ?_ | refine eg_then ?_ | refine qsp ?_ | refine qsa ?_ | refine eg_in_normal ?_)
              exact eg_again (p + 1) _ ⟨_, rows12, hpt, rfl⟩ (by omega) ⟨rfl, rfl, rfl, rfl, rfl, rfl, rfl, rfl, rfl, trivial⟩
            · rw [g4, h2] at hstep
              repeat (first | refine cg_region ?_ | refine rg_nil ?_ | refine eg_then ?_ | refine qsp ?_ | refine qsa ?_ | refine cg_skip ?_ | refine eg_in_normal ?_)
              refine eg_again (p + 1) _ ⟨vs, ?_, hpt, rfl⟩ (by omega) ⟨rfl, rfl, rfl, rfl, rfl, rfl, rfl, rfl, rfl, trivial⟩
              rw [hstep]
              exact rows
        · have hpl : p = os.length := by simp at h1; omega
          rw [hpl, hrow] at rows4
          repeat (first | refine cg_region ?_ | refine rg_nil ?_ | refine eg_then ?_ | refine qsp ?_ | refine qsa ?_ | refine eg_in_normal ?_ | refine cg_exit ?_ | refine eg_then_exit ?_ | refine eg_in_exit ?_)
          exact eg_again (i + 1) _ ⟨vs, rows4, hlt, rfl⟩ (by omega) ⟨rfl, rfl, rfl, rfl, rfl, trivial⟩
      · have hil : i = l.length := by simp at h; omega
        rw [hil, rsR_all] at rows3
        have hsl := rows3.sl (T := tTp) (by unfold roundM; simp; unfold maxLen; omega) (fun r hr x hx => ⟨rfl, by obtain ⟨t, h1, h2⟩ := roundM_sub hr hx; exact sls_tpok ht t h1 x h2⟩)
        have hrl : (roundM l target).length = l.length := by simp [roundM]
        repeat (first | refine cg_seq ?_ | refine cg_region ?_ | refine rg_nil ?_ | refine eg_then ?_ | refine qsp ?_ | refine cg_ret ?_ | refine cg_exit ?_ | refine eg_then_exit ?_ | refine eg_in_exit ?_)
        refine eg_return2 rfl rfl rfl ⟨some ⟨bo, 0, none⟩, l.length, roundM l target, 0, (by rw [hrl]), ?_, (fun h => by rw [hok] at h; cases h), fun _ => ⟨rfl, rfl⟩⟩
        rw [hrl] at hsl
        exact hsl
    · rw [decide_eq_false hnd] at hal
      skip
      refine rs rfl rfl (loc_call_is rfl rfl rfl rfl (hal)) ?_
      repeat (first | refine cg_seq ?_ | refine cg_region ?_ | refine rg_nil ?_ | refine eg_then ?_ | refine qsp ?_ | refine cg_cond_true rfl ?_ | refine cg_ret ?_ | refine eg_then_ret ?_)
      exact eg_return2 rfl rfl rfl (bad (by simp [okRnd, hnd]) _)
  · have q1 : ((target.length : Int) != (l.length : Int)) = true := by simp; omega
    rw [q1]
    repeat (first | refine cg_seq ?_ | refine cg_region ?_ | refine rg_nil ?_ | refine eg_then ?_ | refine qsp ?_ | refine qso ?_ | refine cg_cond_true rfl ?_ | refine cg_ret ?_ | refine eg_then_ret ?_)
    exact eg_return2 rfl rfl rfl (bad (by simp [okRnd, hlen]) _)
end Go.Wm

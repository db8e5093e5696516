/-
  A round of asking that changes nothing, in plain Lean: all have their targets. Conditions: none.
-/
import Derived.Test.YtbhgbfhgdccghaaP12
import Derived.Test.YtbhgbfhgdccghaaR11
import Derived.Test.YtbhgbfhgdccghaaL4
set_option linter.all false
namespace Go.Wm
open Go.RowKit Go.Proofs
/-- What of a member a target looks at. -/
def bare (m : Member) : Member := ⟨m.id, ⟨#[]⟩, m.subs, m.own, false, 0⟩
section
variable (l : List Member)
theorem bare_get (i : Nat) : (l.map bare)[i]? = (l[i]?).map bare := List.getElem?_map
theorem whoL_bare (tp : Tp) (n : Nat) : whoL (l.map bare) tp n = whoL l tp n := by
  unfold whoL
  congr 2
  funext i
  rw [bare_get]
  cases l[i]? <;> rfl
theorem cmpM_bare (many : List Int) : cmpM (l.map bare) many = cmpM l many := by
  funext x y
  unfold cmpM
  rw [bare_get, bare_get, Option.map_map, Option.map_map]
  rfl
theorem leastM_bare (tp : Tp) (many : List Int) : leastM (l.map bare) tp many = leastM l tp many := by
  unfold leastM
  rw [List.length_map, whoL_bare, cmpM_bare]
theorem leastW_bare (tp : Tp) (w : List Int) : leastW (l.map bare) tp w = leastW l tp w := by
  unfold leastW
  rw [List.length_map, leastM_bare]
theorem wInit_bare (tps : List Tp) : wInit (l.map bare) tps = wInit l tps := by
  unfold wInit
  congr 1
  funext tp
  unfold idxF
  rw [List.findIdx?_map]
  rfl
theorem fillW_bare (tps : List Tp) (w : List Int) : ∀ p, fillW (l.map bare) tps w p = fillW l tps w p
  | 0 => rfl
  | p + 1 => by
    unfold fillW
    rw [fillW_bare tps w p]
    simp only [leastW_bare]
theorem hotW_bare (tps : List Tp) (w : List Int) : hotW (l.map bare) tps w = hotW l tps w := by
  funext p
  unfold hotW
  simp only [leastW_bare]
theorem stepM_bare (tps : List Tp) (w : List Int) : stepM (l.map bare) tps w = stepM l tps w := by
  unfold stepM
  rw [hotW_bare]
  simp only [leastW_bare]
theorem moved_bare {tps : List Tp} {w w' : List Int} : Moved (l.map bare) tps w w' ↔ Moved l tps w w' := by
  constructor
  · intro h
    induction h with
    | refl => exact .refl _
    | step _ h2 ih => exact .step ih (by rw [← stepM_bare]; exact h2)
  · intro h
    induction h with
    | refl => exact .refl _
    | step _ h2 ih => exact .step ih (by rw [stepM_bare]; exact h2)
theorem wants_bare {tp : Tp} {x : Int} : Wants (l.map bare) tp x ↔ Wants l tp x := by
  unfold Wants
  constructor
  · rintro ⟨i, h1, h2, h3⟩
    rw [List.length_map] at h2
    rw [List.getElem_map] at h3
    exact ⟨i, h1, h2, h3⟩
  · rintro ⟨i, h1, h2, h3⟩
    refine ⟨i, h1, by rw [List.length_map]; exact h2, ?_⟩
    rw [List.getElem_map]; exact h3
theorem isTgt_bare {tps : List Tp} {w : List Int} : IsTgt (l.map bare) tps w ↔ IsTgt l tps w := by
  constructor
  · rintro ⟨h1, ⟨h2, h3⟩, h4⟩
    refine ⟨?_, ⟨h2, fun p x tp hp ht => (h3 p x tp hp ht).imp id (wants_bare l).1⟩, by rw [← stepM_bare]; exact h4⟩
    rw [fillW_bare, wInit_bare] at h1
    exact (moved_bare l).1 h1
  · rintro ⟨h1, ⟨h2, h3⟩, h4⟩
    refine ⟨?_, ⟨h2, fun p x tp hp ht => (h3 p x tp hp ht).imp id (wants_bare l).2⟩, by rw [stepM_bare]; exact h4⟩
    rw [fillW_bare, wInit_bare]
    exact (moved_bare l).2 h1
end
theorem IsTgt.alike {l l' : List Member} {tps : List Tp} {w : List Int} (h : IsTgt l tps w) (he : l.map bare = l'.map bare) : IsTgt l' tps w := (isTgt_bare l').1 (he ▸ (isTgt_bare l).2 h)
theorem giveB_bare (l : List Member) (i : Nat) (tp : Tp) : giveB (l.map bare) i tp = giveB l i tp := by
  unfold giveB
  rw [bare_get, Option.map_map, List.any_map]
  rfl
theorem gotS_bare (l : List Member) (tps : List Tp) (w : List Int) (p : Nat) : gotS (l.map bare) tps w p = gotS l tps w p := by
  unfold gotS roundM
  rw [List.length_map]
  congr 1
  apply List.map_congr_left
  intro j _
  congr 1
  funext tp
  exact giveB_bare l j tp
theorem gotS_alike {l l' : List Member} (he : l.map bare = l'.map bare) (tps : List Tp) (w : List Int) (p : Nat) : gotS l tps w p = gotS l' tps w p := by
  rw [← gotS_bare l, he, gotS_bare]
/-- Behind i that were asked. -/
structure AskI (g0 g : Group) (tps : List Tp) (i : Nat) (c : Bool) : Prop where
  chk : ChkG g
  st : g.state = 2
  len : g.l.length = g0.l.length
  zero : i = 0 → g = g0
  same : c = false → g.l.map bare = g0.l.map bare
  ex : c = false → 0 < i → ∃ w, IsTgt g0.l tps w
  got : c = false → ∀ w, IsTgt g0.l tps w → ∀ j m, j < i → g0.l[j]? = some m → m.own = gotS g0.l tps w j
theorem AskI.start {g : Group} (hc : ChkG g) (hs : g.state = 2) (tps : List Tp) : AskI g g tps 0 false :=
  ⟨hc, hs, rfl, fun _ => rfl, fun _ => rfl, fun _ h => by omega, fun _ _ _ j m h => by omega⟩
theorem ask_zero {g : Group} {now : Int} {tps : List Tp} {i : Nat} {m : Member} (hc : ChkG g) (hs : g.state = 2) (hm : g.l[i]? = some m) (ht : timeOk now = true) (hr : RightP ordTp tpOk tps) : syncE g m.id g.gen now tps = 0 := by
  unfold syncE
  rw [if_neg (fun h => h (chk_of hc)), ht, decide_eq_true hr, if_neg (by decide), hasId_true.2 ⟨m, List.mem_of_getElem? hm, rfl⟩, if_neg (by decide), if_neg (by omega), if_neg (fun h => h rfl)]
theorem AskI.next {g0 g x : Group} {now : Int} {tps own : List Tp} {i : Nat} {c : Bool} {m : Member} {e : Int} (h : AskI g0 g tps i c) (hm : g.l[i]? = some m) (ht : timeOk now = true) (hr : RightP ordTp tpOk tps) (hs : SyncR g m.id g.gen now tps x own e) :
    e = 0 ∧ x.l.length = g.l.length ∧ x.l[i]? = some (setOwn own now m) ∧ AskI g0 x tps (i + 1) (c || !decide (m.own = own)) := by
  have hz := ask_zero h.chk h.st hm ht hr
  have hck := sync_ok hs
  obtain ⟨w, h1, h2, h3, h4⟩ := hs.yes hz
  obtain ⟨hi, hmi⟩ := List.getElem?_eq_some_iff.1 hm
  have hp : posF (byId m.id) g.l = i := pos_at h.chk.right hi (by rw [hmi])
  rw [hp] at h2 h3
  have hset : x.l = g.l.set i (setOwn own now m) := by rw [h3]; exact setAt_at hm
  have hlen : x.l.length = g.l.length := by rw [hset, List.length_set]
  refine ⟨h4, hlen, by rw [hset, List.getElem?_set, if_pos rfl, if_pos hi], hck h4, by rw [h3]; exact h.st, hlen.trans h.len, fun hh => by omega, fun hcc => ?_, fun hcc _ => ?_, fun hcc w' hw' j m' hj hm' => ?_⟩
  all_goals
    rw [Bool.or_eq_false_iff] at hcc
    obtain ⟨hc1, hc2⟩ := hcc
    have ho : m.own = own := by simpa using hc2
  · rw [hset, map_set_same hm (show bare (setOwn own now m) = bare m by unfold bare setOwn; rw [ho])]
    exact h.same hc1
  · exact ⟨w, h1.alike (h.same hc1)⟩
  · by_cases hji : j = i
    · subst hji
      have hg : g0.l[j]?.map bare = g.l[j]?.map bare := by rw [← bare_get, ← bare_get, h.same hc1]
      rw [hm', hm] at hg
      have hb : bare m' = bare m := Option.some.inj hg
      have ho' : m'.own = m.own := by have := congrArg Member.own hb; exact this
      have hw2 : w' = w := (hw'.alike (h.same hc1).symm).same h1
      rw [ho', ho, h2, hw2]
      exact gotS_alike (h.same hc1) tps w j
    · exact h.got hc1 w' hw' j m' (by omega) hm'
theorem right_nodup {tps : List Tp} (hr : RightP ordTp tpOk tps) : tps.Nodup := ((right_iff ordL_tp).1 hr).2.imp fun {a b} hlt he => by rw [he, ordTp_eq.2 rfl] at hlt; omega
theorem roundM_at {l : List Member} {t : List (List Tp)} {j : Nat} (hj : j < l.length) : (roundM l t).getD j [] = (t.getD j []).filter (giveB l j) := by
  unfold roundM
  rw [List.getD_eq_getElem?_getD, List.getElem?_map, List.getElem?_range hj]
  rfl
/-- Who has what it is given has its target. -/
theorem own_target {l : List Member} {tps : List Tp} {w : List Int} (hn : tps.Nodup) (hw : IsTgt l tps w) (hg : ∀ j m, l[j]? = some m → m.own = gotS l tps w j) : l.map (·.own) = outM l.length tps w := by
  have hlen := hw.inv.len
  have hsub : ∀ j m, l[j]? = some m → ∀ t ∈ m.own, t ∈ (outM l.length tps w).getD j [] := fun j m hm t ht => by
    have hj := (List.getElem?_eq_some_iff.1 hm).1
    rw [hg j m hm, gotS, roundM_at hj] at ht
    exact (List.mem_filter.1 ht).1
  apply List.ext_getElem?
  intro j
  rw [List.getElem?_map]
  by_cases hj : j < l.length
  · have hm := List.getElem?_eq_getElem hj
    generalize l[j] = m at hm
    have hr : (outM l.length tps w)[j]? = some ((outM l.length tps w).getD j []) := by
      rw [List.getD_eq_getElem?_getD, List.getElem?_eq_getElem (by rw [outM_len]; exact hj)]; rfl
    rw [hm, hr]
    simp only [Option.map_some]
    congr 1
    rw [hg j m hm, gotS, roundM_at hj, List.filter_eq_self]
    intro t ht
    have hin : t ∈ m.own ∨ t ∉ m.own := Decidable.em _
    unfold giveB
    rw [hm]
    simp only [Option.map_some, Option.getD_some, Bool.or_eq_true, decide_eq_true_eq, Bool.not_eq_true']
    refine Classical.byContradiction fun hno => ?_
    have h1 : t ∉ m.own := fun hh => hno (.inl hh)
    have h2 : (l.any fun m => decide (t ∈ m.own)) = true := by
      cases hh : l.any fun m => decide (t ∈ m.own) with
      | false => exact absurd (.inr hh) hno
      | true => rfl
    obtain ⟨m', hm', ht'⟩ := List.any_eq_true.1 h2
    obtain ⟨j', hj'⟩ := List.getElem?_of_mem hm'
    have ht' : t ∈ m'.own := of_decide_eq_true ht'
    have hjl := (List.getElem?_eq_some_iff.1 hj').1
    have hr' : (outM l.length tps w)[j']? = some ((outM l.length tps w).getD j' []) := by
      rw [List.getD_eq_getElem?_getD, List.getElem?_eq_getElem (by rw [outM_len]; exact hjl)]; rfl
    have := outM_apart hn hlen hr hr' ht (hsub j' m' hj' t ht')
    subst this
    rw [hm] at hj'
    cases hj'
    exact h1 ht'
  · rw [List.getElem?_eq_none (by omega), List.getElem?_eq_none (by rw [outM_len]; omega)]; rfl
theorem okT_chk {g : Group} {tps : List Tp} (hc : ChkG g) (hn : tps.Nodup) : okT g.l tps = true := by
  obtain ⟨h1, h2⟩ := right_all.1 hc.right
  have h3 : (g.l.map (·.id)).Nodup := by
    unfold List.Nodup
    rw [List.pairwise_map]
    exact h2.imp fun {a b} hlt he => by
      have : ordId a b = 0 := cmpStr_eq.2 he
      omega
  have h4 : ByteArray.empty ∉ g.l.map (·.id) := fun hm => by
    obtain ⟨m, hm, he⟩ := List.mem_map.1 hm
    have := h1 m hm
    rw [memOk_ref, he] at this
    simp only [Bool.and_eq_true] at this
    exact absurd this.1 (by decide)
  unfold okT okM
  rw [decide_eq_true h3, decide_eq_false h4, decide_eq_true hn]; rfl
theorem count_one {α : Type} {f : α → Bool} {l : List α} {i : Nat} (hi : i < l.length) (hf : f l[i] = true) (hu : ∀ j, (h : j < l.length) → f l[j] = true → j = i) : l.countP f = 1 := by
  have e : l = l.take i ++ l[i] :: l.drop (i + 1) := by rw [← List.drop_eq_getElem_cons hi, List.take_append_drop]
  have h1 : (l.take i).countP f = 0 := by
    rw [List.countP_eq_zero]
    intro y hy hfy
    obtain ⟨j, hj, rfl⟩ := List.getElem_of_mem hy
    rw [List.length_take] at hj
    rw [List.getElem_take] at hfy
    have := hu j (by omega) hfy
    omega
  have h2 : (l.drop (i + 1)).countP f = 0 := by
    rw [List.countP_eq_zero]
    intro y hy hfy
    obtain ⟨j, hj, rfl⟩ := List.getElem_of_mem hy
    rw [List.length_drop] at hj
    rw [List.getElem_drop] at hfy
    have := hu (i + 1 + j) (by omega) hfy
    omega
  rw [e, List.countP_append, List.countP_cons, h1, h2, hf]; rfl
/-- What an unchanged round has come to. -/
theorem ask_done {g0 g : Group} {tps : List Tp} (h : AskI g0 g tps g0.l.length false) (hr : RightP ordTp tpOk tps) : evenA g.l tps (g.l.map (·.own)) = true ∧ (∀ p, (hp : p < tps.length) → (g.l.map (·.own)).countP (fun r => decide (tps[p] ∈ r)) = if anyW g.l tps[p] = true then 1 else 0) ∧ ∀ r ∈ g.l.map (·.own), r.length ≤ tps.length := by
  have hn := right_nodup hr
  have h0 : 0 < g0.l.length := by
    have hst := h.chk.state
    rw [h.st] at hst
    have := (stateG_two.1 hst.symm).1
    rw [h.len] at this; exact this
  obtain ⟨w, hw⟩ := h.ex rfl h0
  have hsame := h.same rfl
  have hwg : IsTgt g.l tps w := hw.alike hsame.symm
  have hown : g.l.map (·.own) = outM g.l.length tps w := own_target hn hwg fun j m hm => by
    have hj := (List.getElem?_eq_some_iff.1 hm).1
    have hg : g0.l[j]?.map bare = g.l[j]?.map bare := by rw [← bare_get, ← bare_get, hsame]
    rw [hm] at hg
    cases hm' : g0.l[j]? with
    | none => rw [hm'] at hg; cases hg
    | some m' =>
      rw [hm'] at hg
      have hb : bare m' = bare m := Option.some.inj hg
      have ho' : m'.own = m.own := by have := congrArg Member.own hb; exact this
      rw [← ho', h.got rfl w hw j m' (by rw [← h.len]; exact hj) hm']
      exact gotS_alike hsame.symm tps w j
  rw [hown]
  have hlen := hwg.inv.len
  refine ⟨tgt_even (okT_chk h.chk hn) hwg, fun p hp => ?_, fun r hrr => by
    obtain ⟨i, hi⟩ := List.getElem?_of_mem hrr
    exact (outM_subl hlen hi).length_le⟩
  have hpw : p < w.length := by omega
  have key : ∀ i, (hi : i < (outM g.l.length tps w).length) → (tps[p] ∈ (outM g.l.length tps w)[i] ↔ w[p] = (i : Int)) := fun i hi => by
    rw [mem_outM hn hlen hp (List.getElem?_eq_getElem hi), List.getElem?_eq_getElem hpw]
    simp
  rcases hwg.inv.at' p w[p] tps[p] (List.getElem?_eq_getElem hpw) (List.getElem?_eq_getElem hp) with h1 | ⟨i, h1, hi, h2⟩
  · have hno : ¬ anyW g.l tps[p] = true := fun hh => by
      obtain ⟨x, hx⟩ := anyW_iff.1 hh
      exact hwg.full p tps[p] hp (by rw [List.getElem?_eq_getElem hpw, h1]) (List.getElem?_eq_getElem hp) x hx
    rw [if_neg hno, List.countP_eq_zero]
    intro r hrr hm
    obtain ⟨i, hi, rfl⟩ := List.getElem_of_mem hrr
    have := (key i hi).1 (of_decide_eq_true hm)
    omega
  · rw [if_pos (anyW_iff.2 ⟨w[p], i, h1, hi, h2⟩)]
    have hio : i < (outM g.l.length tps w).length := by rw [outM_len]; exact hi
    refine count_one hio (decide_eq_true ((key i hio).2 h1)) fun j hj hm => ?_
    have := (key j hj).1 (of_decide_eq_true hm)
    omega
end Go.Wm

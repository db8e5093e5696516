/-
  Who has its target keeps it. Conditions: none.
-/
import Derived.Test.YtapfmndcjcdcjaaP8
import Derived.Test.YtapfmndcjcdcjaaC3
import Derived.Test.YtapfmndcjcdcjaaD2
set_option linter.all false
namespace Go.Wm
open Go.RowKit Go.Proofs

/-- What nobody has, nobody wants. -/
def Full (l : List Mem) (tps : List Tp) (w : List Int) (n : Nat) : Prop := ∀ p tp, p < n → w[p]? = some (-1) → tps[p]? = some tp → ∀ x, ¬ Wants l tp x
section
variable {l : List Mem} {tps : List Tp}
theorem full_set {w : List Int} {n p : Nat} {tp : Tp} (h : Full l tps w n) (ht : tps[p]? = some tp) : Full l tps (w.set p (leastW l tp w)) n := by
  intro q tq hq hw htq x
  rw [List.getElem?_set] at hw
  split at hw
  · rename_i hpq
    subst hpq
    split at hw
    · simp only [Option.some.injEq] at hw
      rw [ht] at htq
      cases htq
      rcases least_is l tp w with ⟨_, h2⟩ | ⟨i, h1, _⟩
      · exact h2 x
      · omega
    · cases hw
  · exact h q tq hq hw htq x
theorem full_fill (w : List Int) (hv : ∀ x ∈ w, -1 ≤ x) : ∀ p, Full l tps (fillW l tps w p) p ∧ ∀ x ∈ fillW l tps w p, -1 ≤ x
  | 0 => ⟨fun p tp hp => by omega, hv⟩
  | p + 1 => by
    obtain ⟨ih, ihv⟩ := full_fill w hv p
    have ext : ∀ w', Full l tps w' p → (∀ tp, w'[p]? = some (-1) → tps[p]? = some tp → ∀ x, ¬ Wants l tp x) → Full l tps w' (p + 1) := by
      intro w' h h' q tq hq hw htq
      by_cases hqp : q = p
      · subst hqp; exact h' tq hw htq
      · exact h q tq (by omega) hw htq
    unfold fillW
    cases hx : (fillW l tps w p)[p]? with
    | none => exact ⟨ext _ ih fun tp h _ => (by rw [hx] at h; cases h), ihv⟩
    | some x =>
      cases ht : tps[p]? with
      | none => exact ⟨ext _ ih fun tp _ h => (by rw [ht] at h; cases h), ihv⟩
      | some tp =>
        simp only
        by_cases h0 : x < 0
        · rw [if_pos h0]
          refine ⟨ext _ (full_set ih ht) fun tq hw htq y => ?_, fun y hy => ?_⟩
          · rw [ht] at htq
            cases htq
            have hpl : p < (fillW l tps w p).length := (List.getElem?_eq_some_iff.1 hx).1
            rw [List.getElem?_set, if_pos rfl, if_pos hpl] at hw
            simp only [Option.some.injEq] at hw
            rcases least_is l tp (fillW l tps w p) with ⟨_, h2⟩ | ⟨i, h1, _⟩
            · exact h2 y
            · omega
          · rcases List.mem_or_eq_of_mem_set hy with hy | hy
            · exact ihv y hy
            · rw [hy]
              rcases least_val l tp (fillW l tps w p) with h | ⟨h, _⟩ <;> omega
        · rw [if_neg h0]
          refine ⟨ext _ ih fun tq hw _ => ?_, ihv⟩
          rw [hx] at hw
          simp only [Option.some.injEq] at hw
          omega
theorem full_moved {w w' : List Int} {n : Nat} (hm : Moved l tps w w') (h : Full l tps w n) : Full l tps w' n := by
  induction hm with
  | refl => exact h
  | step _ h2 ih =>
    unfold stepM at h2
    split at h2
    · split at h2
      · rename_i ht
        cases h2
        exact full_set ih ht
      · cases h2
    · cases h2
theorem IsTgt.full {w : List Int} (h : IsTgt l tps w) : Full l tps w tps.length :=
  full_moved h.moved (full_fill _ (fun x hx => by rcases (wInit_inv l tps).good x hx with h | ⟨h, _⟩ <;> omega) _).1

theorem withM_at {own : List (List Tp)} (i : Nat) : (withM l own)[i]? = (l[i]?).map fun m => { m with own := own.getD i [] } := by
  by_cases hi : i < l.length
  · rw [withM_get hi, List.getElem?_eq_getElem hi]; rfl
  · rw [List.getElem?_eq_none (by rw [withM_len]; omega), List.getElem?_eq_none (by omega)]; rfl
theorem least_with (own : List (List Tp)) (tp : Tp) (w : List Int) : leastW (withM l own) tp w = leastW l tp w := by
  unfold leastW
  rw [withM_len]
  refine leastM_congr ?_ fun x _ y _ => ?_
  · unfold whoL
    rw [withM_len]
    congr 1
    apply List.filter_congr
    intro i _
    rw [withM_at]
    cases l[i]? <;> rfl
  · unfold cmpM
    rw [withM_at, withM_at, Option.map_map, Option.map_map]
    rfl
theorem wants_with {own : List (List Tp)} {tp : Tp} {x : Int} : Wants (withM l own) tp x ↔ Wants l tp x := by
  unfold Wants
  constructor
  · rintro ⟨i, h1, h2, h3⟩
    rw [withM_len] at h2
    refine ⟨i, h1, h2, ?_⟩
    have := withM_get (own := own) h2
    rw [List.getElem?_eq_getElem (by rw [withM_len]; exact h2)] at this
    rw [Option.some.inj this] at h3
    exact h3
  · rintro ⟨i, h1, h2, h3⟩
    refine ⟨i, h1, by rw [withM_len]; exact h2, ?_⟩
    have := withM_get (own := own) h2
    rw [List.getElem?_eq_getElem (by rw [withM_len]; exact h2)] at this
    rw [Option.some.inj this]
    exact h3
theorem mem_outM {n i p : Nat} {w : List Int} (hn : tps.Nodup) (hw : w.length = tps.length) (hp : p < tps.length) {r : List Tp} (hr : (outM n tps w)[i]? = some r) : tps[p] ∈ r ↔ w[p]? = some (i : Int) := by
  have hi : i < n := by
    have := (List.getElem?_eq_some_iff.1 hr).1
    rw [outM_len] at this
    exact this
  rw [outM_get hi] at hr
  cases hr
  rw [List.mem_map]
  constructor
  · rintro ⟨x, hx, e⟩
    rw [List.mem_filter] at hx
    obtain ⟨q, hq⟩ := List.getElem?_of_mem hx.1
    rw [List.getElem?_zip_eq_some] at hq
    have hql : q < tps.length := (List.getElem?_eq_some_iff.1 hq.1).1
    have e2 := (List.getElem?_eq_some_iff.1 hq.1).2
    have : q = p := by
      have hpw := List.pairwise_iff_getElem.1 hn
      rcases Nat.lt_trichotomy q p with h4 | h4 | h4
      · exact (hpw q p hql hp h4 (by rw [e2, e])).elim
      · exact h4
      · exact (hpw p q hp hql h4 (by rw [e2, e])).elim
    subst this
    rw [hq.2]
    have := hx.2
    simp only [decide_eq_true_eq] at this
    rw [this]
  · intro h
    refine ⟨(tps[p], (i : Int)), ?_, rfl⟩
    rw [List.mem_filter]
    refine ⟨?_, by simp⟩
    apply List.mem_of_getElem? (i := p)
    rw [List.getElem?_zip_eq_some]
    exact ⟨List.getElem?_eq_getElem hp, h⟩
theorem stays_init {w : List Int} (hn : tps.Nodup) (h : IsTgt l tps w) : wInit (withM l (outM l.length tps w)) tps = w := by
  apply List.ext_getElem?
  intro p
  have hlen := h.inv.len
  by_cases hp : p < tps.length
  · rw [wInit_get hp]
    have hpw : p < w.length := by omega
    rw [List.getElem?_eq_getElem hpw]
    congr 1
    have hown : ∀ (i : Nat) (hi : i < (withM l (outM l.length tps w)).length), (tps[p] ∈ ((withM l (outM l.length tps w))[i]).own ↔ w[p] = (i : Int)) := by
      intro i hi
      have hil : i < l.length := by rw [withM_len] at hi; exact hi
      have e1 := withM_get (own := outM l.length tps w) hil
      rw [List.getElem?_eq_getElem hi] at e1
      rw [Option.some.inj e1]
      have hr : (outM l.length tps w)[i]? = some ((outM l.length tps w).getD i []) := by
        rw [List.getD_eq_getElem?_getD, List.getElem?_eq_getElem (by rw [outM_len]; exact hil)]; rfl
      show tps[p] ∈ (outM l.length tps w).getD i [] ↔ _
      rw [mem_outM hn hlen hp hr, List.getElem?_eq_getElem hpw]
      simp
    rcases h.inv.at' p w[p] tps[p] (List.getElem?_eq_getElem hpw) (List.getElem?_eq_getElem hp) with h1 | ⟨i, h1, hi, h2⟩
    · rw [h1]
      refine idxF_no fun m hm => ?_
      obtain ⟨i, hi, rfl⟩ := List.mem_iff_getElem.1 hm
      have : ¬ tps[p] ∈ ((withM l (outM l.length tps w))[i]).own := fun hmem => by
        have := (hown i hi).1 hmem
        omega
      simp [this]
    · rw [h1]
      have hi' : i < (withM l (outM l.length tps w)).length := by rw [withM_len]; exact hi
      refine idxF_at hi' ?_ fun m hm => ?_
      · have hsub : tps[p].topic ∈ ((withM l (outM l.length tps w))[i]).subs := by
          have e1 := withM_get (own := outM l.length tps w) hi
          rw [List.getElem?_eq_getElem hi'] at e1
          rw [Option.some.inj e1]
          exact h2
        have := (hown i hi').2 h1
        simp [this, hsub]
      · obtain ⟨j, hj⟩ := List.getElem?_of_mem hm
        rw [List.getElem?_take] at hj
        split at hj
        · rename_i hji
          have hjl := (List.getElem?_eq_some_iff.1 hj).1
          have e := (List.getElem?_eq_some_iff.1 hj).2
          have : ¬ tps[p] ∈ ((withM l (outM l.length tps w))[j]).own := fun hmem => by
            have := (hown j hjl).1 hmem
            omega
          rw [← e]
          simp [this]
        · cases hj
  · rw [List.getElem?_eq_none (by rw [wInit_len]; omega), List.getElem?_eq_none (by omega)]
theorem stays_fill {own : List (List Tp)} {w : List Int} (h : Full l tps w tps.length) (hv : ∀ x ∈ w, -1 ≤ x) : ∀ p, p ≤ tps.length → fillW (withM l own) tps w p = w
  | 0, _ => rfl
  | p + 1, hp => by
    unfold fillW
    rw [stays_fill h hv p (by omega)]
    cases hx : w[p]? with
    | none => rfl
    | some x =>
      cases ht : tps[p]? with
      | none => rfl
      | some tp =>
        simp only
        by_cases h0 : x < 0
        · rw [if_pos h0]
          have : x = -1 := by
            have := hv x (List.mem_of_getElem? hx)
            omega
          subst this
          have hno := h p tp (by omega) hx ht
          rw [least_with]
          have e : leastW l tp w = -1 := by
            rcases least_is l tp w with ⟨h1, _⟩ | ⟨i, _, _, h3, _⟩
            · exact h1
            · exact absurd h3 (hno _)
          rw [e]
          apply List.ext_getElem?
          intro q
          rw [List.getElem?_set]
          split
          · rename_i hpq
            subst hpq
            split
            · rw [hx]
            · rw [List.getElem?_eq_none (by omega)]
          · rfl
        · rw [if_neg h0]
theorem stays_tgt {w : List Int} (hn : tps.Nodup) (h : IsTgt l tps w) : IsTgt (withM l (outM l.length tps w)) tps w := by
  have hv : ∀ x ∈ w, -1 ≤ x := fun x hx => by rcases h.inv.good x hx with h | ⟨h, _⟩ <;> omega
  have H : Eqv l (withM l (outM l.length tps w)) tps id := eqv_id fun tp _ w' _ => least_with _ tp w'
  refine ⟨?_, ⟨h.inv.len, fun p x tp hp ht => ?_⟩, ?_⟩
  · rw [stays_init hn h, stays_fill h.full hv _ (Nat.le_refl _)]
    exact .refl _
  · rcases h.inv.at' p x tp hp ht with h1 | h1
    · exact .inl h1
    · exact .inr (wants_with.2 h1)
  · have := H.step h.inv.good
    rw [List.map_id, h.still] at this
    exact this
theorem okM_with (own : List (List Tp)) : okM (withM l own) = okM l := by
  have : (withM l own).map (·.id) = l.map (·.id) := by
    apply List.ext_getElem?
    intro i
    rw [List.getElem?_map, List.getElem?_map, withM_at, Option.map_map]
    rfl
  unfold okM
  rw [this]
theorem mv_zero (own : List (List Tp)) : ∀ i, i ≤ l.length → mvTo (withM l own) own i = 0
  | 0, _ => rfl
  | i + 1, hi => by
    simp only [mvTo]
    rw [mv_zero own i (by omega), Nat.zero_add, List.countP_eq_zero]
    intro tp htp
    unfold mvB
    rw [withM_at, List.getElem?_eq_getElem (by omega)]
    simp only [Option.map_some, Option.getD_some, htp, decide_true, Bool.not_true, Bool.false_and]
    simp
theorem moves_zero (own : List (List Tp)) : movesM (withM l own) own = 0 := mv_zero own _ (by rw [withM_len]; omega)
theorem lenTo_bd {own : List (List Tp)} {B : Nat} (h : ∀ r ∈ own, r.length ≤ B) : ∀ k, lenTo own k ≤ k * B
  | 0 => by simp [lenTo]
  | k + 1 => by
    have ih := lenTo_bd h k
    simp only [lenTo]
    rw [Nat.succ_mul]
    have : (own.getD k []).length ≤ B := by
      rw [List.getD_eq_getElem?_getD]
      cases hk : own[k]? with
      | none => simp
      | some r => exact h r (List.mem_of_getElem? hk)
    omega
end
end Go.Wm

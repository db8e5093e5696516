/-
  What a target is, in plain Lean. Conditions: none.
-/
import Derived.Test.YtbhgbfhgdccghaaGreatK6
set_option linter.all false
namespace Go.Wm
open Go.RowKit Go.Proofs
section
variable {l : List Member} {tps : List Tp}
theorem mem_outM {n i p : Nat} {w : List Int} (hn : tps.Nodup) (hw : w.length = tps.length) (hp : p < tps.length) {r : List Tp} (hr : (outM n tps w)[i]? = some r) : tps[p] ∈ r ↔ w[p]? = some (i : Int) := by
  have hi : i < n := by
    have := (List.getElem?_eq_some_iff.1 hr).1
    rw [outM_len] at this
    exact this
  rw [outM_get hi] at hr
  cases hr
  rw [List.mem_map]
  constructor
  · rintro ⟨x, hx, e⟩
    rw [List.mem_filter] at hx
    obtain ⟨q, hq⟩ := List.getElem?_of_mem hx.1
    rw [List.getElem?_zip_eq_some] at hq
    have hql : q < tps.length := (List.getElem?_eq_some_iff.1 hq.1).1
    have e2 := (List.getElem?_eq_some_iff.1 hq.1).2
    have : q = p := by
      have hpw := List.pairwise_iff_getElem.1 hn
      rcases Nat.lt_trichotomy q p with h4 | h4 | h4
      · exact (hpw q p hql hp h4 (by rw [e2, e])).elim
      · exact h4
      · exact (hpw p q hp hql h4 (by rw [e2, e])).elim
    subst this
    rw [hq.2]
    have := hx.2
    simp only [decide_eq_true_eq] at this
    rw [this]
  · intro h
    refine ⟨(tps[p], (i : Int)), ?_, rfl⟩
    rw [List.mem_filter]
    refine ⟨?_, by simp⟩
    apply List.mem_of_getElem? (i := p)
    rw [List.getElem?_zip_eq_some]
    exact ⟨List.getElem?_eq_getElem hp, h⟩
theorem lenTo_bd {own : List (List Tp)} {B : Nat} (h : ∀ r ∈ own, r.length ≤ B) : ∀ k, lenTo own k ≤ k * B
  | 0 => by simp [lenTo]
  | k + 1 => by
    have ih := lenTo_bd h k
    simp only [lenTo]
    rw [Nat.succ_mul]
    have : (own.getD k []).length ≤ B := by
      rw [List.getD_eq_getElem?_getD]
      cases hk : own[k]? with
      | none => simp
      | some r => exact h r (List.mem_of_getElem? hk)
    omega
theorem outM_apart {n i j : Nat} {w : List Int} (hn : tps.Nodup) (hw : w.length = tps.length) {r s : List Tp} {x : Tp} (hr : (outM n tps w)[i]? = some r) (hs : (outM n tps w)[j]? = some s) (hx : x ∈ r) (hy : x ∈ s) : i = j := by
  have hm : x ∈ tps := (outM_subl hw hr).subset hx
  obtain ⟨p, hp, rfl⟩ := List.mem_iff_getElem.1 hm
  have h1 := (mem_outM hn hw hp hr).1 hx
  have h2 := (mem_outM hn hw hp hs).1 hy
  rw [h1] at h2
  simp only [Option.some.injEq] at h2
  omega
theorem outM_nodup {n : Nat} {w : List Int} (hn : tps.Nodup) (hw : w.length = tps.length) : (outM n tps w).flatten.Nodup := by
  unfold List.Nodup
  rw [List.pairwise_flatten]
  refine ⟨fun r hr => ?_, ?_⟩
  · obtain ⟨i, hi⟩ := List.getElem?_of_mem hr
    exact hn.sublist (outM_subl hw hi)
  · rw [List.pairwise_iff_getElem]
    intro i j hi hj hij x hx y hy e
    subst e
    have := outM_apart hn hw (List.getElem?_eq_getElem hi) (List.getElem?_eq_getElem hj) hx hy
    omega
theorem okR_tgt {w : List Int} (hok : okT l tps = true) (h : IsTgt l tps w) : okRnd l (outM l.length tps w) = true := by
  simp only [okT, Bool.and_eq_true, decide_eq_true_eq] at hok
  simp only [okRnd, hok.1, outM_len, decide_true, Bool.true_and, decide_eq_true_eq]
  exact outM_nodup hok.2 h.inv.len
end
theorem okM_right {l : List Member} (h : RightP ordId memOk l) : okM l = true := by
  obtain ⟨h1, h2⟩ := right_all.1 h
  unfold okM
  simp only [Bool.and_eq_true, decide_eq_true_eq, Bool.not_eq_true', decide_eq_false_iff_not]
  refine ⟨?_, fun hm => ?_⟩
  · refine List.pairwise_map.2 (h2.imp fun {a b} hlt he => ?_)
    have : ordId a b = 0 := cmpStr_eq.2 he
    omega
  · obtain ⟨x, hx, he⟩ := List.mem_map.1 hm
    have := h1 x hx
    unfold memOk at this
    simp only [Bool.and_eq_true, decide_eq_true_eq] at this
    have h3 := this.1
    unfold isName at h3
    simp only [Bool.and_eq_true, decide_eq_true_eq] at h3
    rw [he] at h3
    have := h3.2.1
    exact absurd this (by decide)
theorem tps_nodup {tps : List Tp} (h : RightP ordTp tpOk tps) : tps.Nodup := ((right_iff ordL_tp).1 h).2.imp fun {a b} hlt he => by rw [he, ordTp_eq.2 rfl] at hlt; omega
theorem okT_right {l : List Member} {tps : List Tp} (h : RightP ordId memOk l) (ht : RightP ordTp tpOk tps) : okT l tps = true := by
  unfold okT
  rw [okM_right h]
  simp [tps_nodup ht]
theorem sync_told {g : Group} {id : ByteArray} {gen now : Int} {tps : List Tp} {i : Nat} (hf : FindAt id g.l i) : wantE (wantE (wantE (wantE (chkG g) (timeOk now && decide (RightP ordTp tpOk tps)) 1) (metAt id g.l i || !true) 230) (g.state != 1) 232) (decide (gen = g.gen)) 231 = syncE g id gen now tps := by
  unfold syncE
  by_cases h : chkG g = 0
  · have hr := chk_right h
    rw [hf.pos hr, met_has hr, h]
    cases h2 : (timeOk now && decide (RightP ordTp tpOk tps))
    · simp [wantE]
    cases h3 : hasId id g.l
    · simp [wantE]
    by_cases h4 : g.state = 1
    · simp [wantE, h4]
    · by_cases h5 : gen = g.gen
      · simp [wantE, h4, h5]
      · simp [wantE, h4, h5]
  · rw [wantE_ne h, wantE_ne h, wantE_ne h, wantE_ne h, if_pos h]
end Go.Wm

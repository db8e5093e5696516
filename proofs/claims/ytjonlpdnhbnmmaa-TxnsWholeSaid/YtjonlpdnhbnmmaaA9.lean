/-
  Whether transactions may be, the program's. Conditions: that what is handed in reads as data.
-/
import Derived.Test.YtjonlpdnhbnmmaaR8
import Derived.Test.YtjonlpdnhbnmmaaA4
set_option linter.all false
namespace Go.Wm
open Go.RowKit Go.Proofs
attribute [local irreducible] RG CG EG WA Loc Det Alc CT Exit.then Exit.inBlock Code.wp bodyPost

theorem rises_iff : ∀ (l : List Int) (m : Int), risesFrom m l = true ↔ (∀ h : 0 < l.length, m < l[0]) ∧ ∀ i, (h : i + 1 < l.length) → l[i] < l[i + 1]
  | [], m => by simp [risesFrom]
  | x :: r, m => by
    simp only [risesFrom, Bool.and_eq_true, decide_eq_true_eq]
    rw [rises_iff r x]
    constructor
    · rintro ⟨h1, h2, h3⟩
      refine ⟨fun _ => h1, fun i h => ?_⟩
      cases i with
      | zero => exact h2 (by simp at h; omega)
      | succ i => exact h3 i (by simp at h; omega)
    · rintro ⟨h1, h2⟩
      refine ⟨h1 (by simp), fun h => h2 0 (by simp; omega), fun i h => ?_⟩
      have := h2 (i + 1) (by simp; omega)
      simpa using this
theorem ended_prog (l : List Gone) : decide (Ended l) = (!(l.any fun g => !okGone g) && risesFrom (-1) (l.map (·.last))) := by
  rw [Bool.eq_iff_iff]
  simp only [decide_eq_true_eq, Bool.and_eq_true, Bool.not_eq_true', List.any_eq_false, Bool.not_eq_true, Bool.not_eq_false', rises_iff]
  constructor
  · intro h
    refine ⟨fun g hg => ?_, fun h0 => ?_, fun i hi => ?_⟩
    · obtain ⟨i, hi, rfl⟩ := List.getElem_of_mem hg
      simp [(h i hi).1]
    · simp at h0
      have h1 := (h 0 h0).1
      simp only [okGone, Bool.and_eq_true, decide_eq_true_eq] at h1
      simp
      omega
    · simp at hi
      have := (h (i + 1) hi).2 (by omega)
      simpa using this
  · rintro ⟨h1, _, h3⟩ i hi
    refine ⟨by have := h1 l[i] (List.getElem_mem hi); simpa using this, fun h0 => ?_⟩
    obtain ⟨j, rfl⟩ : ∃ j, i = j + 1 := ⟨i - 1, by omega⟩
    have := h3 j (by simp; exact hi)
    simpa using this

theorem lasts_ct {k : PH} (a : Option Addr) (len c : Nat) : CT Try.prog 74 #[.slice a len c] k (fun k' v => ∃ Bs, v = .func (.func 110) #[] #[.pointer (some ⟨Bs, 0, none⟩)] ∧ Cells k' Bs 0 [.slice a len c]) := by
  refine ct_of_body (l := [_]) Try.func74 rfl Try.ntmps74 (by simp) (fun k k' v hle ⟨b, h1, h2⟩ => ⟨b, h1, h2.le hle⟩) fun F hF0 hFm => ?_
  repeat (first | refine cg_seq ?_ | refine cg_region ?_ | refine rg_nil ?_ | refine eg_then ?_ | refine qsp ?_ | refine qsn ?_ | refine qsa ?_ | refine qss ?_ | refine qsi ?_ | refine qsz ?_ | refine qsl ?_ | refine qsg ?_ | refine qsf ?_ | refine qsd ?_ | refine qsE ?_ | refine qsX ?_ | refine qse ?_ | refine qsx ?_ | refine qso ?_ | refine cg_cond_true rfl ?_ | refine cg_cond_false rfl ?_ | refine cg_skip ?_ | refine cg_block ?_ | refine eg_in_normal ?_ | refine cg_ret ?_ | refine eg_then_ret ?_ | refine eg_in_ret ?_ | refine cg_exit ?_ | refine eg_then_exit ?_ | refine eg_in_exit ?_ | refine eg_in_other rfl ?_)
  refine rb rfl rfl rfl rfl (a_box rfl rfl) ?_; intro b1 k1 hb1 hN1 hle1 hk1
  have c1 := cells_at (vs := [.slice a len c]) hk1 rfl
  repeat (first | refine cg_seq ?_ | refine cg_region ?_ | refine rg_nil ?_ | refine eg_then ?_ | refine qsp ?_ | refine qsn ?_ | refine qsa ?_ | refine qss ?_ | refine qsi ?_ | refine qsz ?_ | refine qsl ?_ | refine qsg ?_ | refine qsf ?_ | refine qsd ?_ | refine qsE ?_ | refine qsX ?_ | refine qse ?_ | refine qsx ?_ | refine qso ?_ | refine cg_cond_true rfl ?_ | refine cg_cond_false rfl ?_ | refine cg_skip ?_ | refine cg_block ?_ | refine eg_in_normal ?_ | refine cg_ret ?_ | refine eg_then_ret ?_ | refine eg_in_ret ?_ | refine cg_exit ?_ | refine eg_then_exit ?_ | refine eg_in_exit ?_ | refine eg_in_other rfl ?_)
  exact eg_return rfl rfl ⟨b1, rfl, c1⟩
end Go.Wm
namespace Go.Wm
open Go.RowKit Go.Proofs
theorem rises_ct {k : PH} {a : Option Addr} {c Bs : Nat} {l : List Gone} (hl : Sl tGone k a c l) (hc : Cells k Bs 0 [.slice a l.length c]) (hb : l.length ≤ 1000000) :
    CT Try.prog 87 #[.func (.func 110) #[] #[.pointer (some ⟨Bs, 0, none⟩)]] k (fun _ v => v = .bool (risesFrom (-1) (l.map (·.last)))) := by
  intro w k1 hle hs
  have ho := hl.le hle
  have hbase : ∃ b off, 0 < l.length → a = some ⟨b, off, none⟩ ∧ b < w.heap.size := by
    by_cases h0 : 0 < l.length
    · obtain ⟨b, off, cx, rfl, ⟨rfl, _⟩, hc⟩ := ho.el 0 l[0] (List.getElem?_eq_getElem h0)
      obtain ⟨c, et, fr, h1, _⟩ := hc
      exact ⟨b, off, fun _ => ⟨rfl, (Array.getElem?_eq_some_iff.1 (hs b _ h1)).1⟩⟩
    · exact ⟨0, 0, fun h => absurd h h0⟩
  obtain ⟨b, off, ha⟩ := hbase
  have hBs : w.cell? ⟨Bs, 0, none⟩ = some (.slice a l.length c) := cell_of (j := 0) (off := 0) (hc.le hle) hs rfl
  have hB : Bs < w.heap.size := by
    obtain ⟨c', et, fr, h1, _⟩ := hc.le hle
    exact (Array.getElem?_eq_some_iff.1 (hs Bs _ h1)).1
  have := (callsIn_wide (n := 5)).1 (rises_in Fence.wide 5 trivial trivial rfl (by omega) Bs b off l.length c a (fun j => ((l[j]?).map (·.pid)).getD 0) (fun j => ((l[j]?).map (·.no)).getD 0) (fun j => ((l[j]?).map (·.first)).getD 0) (fun j => ((l[j]?).map (·.last)).getD 0) w (by omega) ha hB hBs (fun j hj => by
    obtain ⟨rfl, _⟩ := ha (by omega)
    obtain ⟨b', off', cx, e, ⟨rfl, _⟩, hc⟩ := ho.el j l[j] (List.getElem?_eq_getElem hj)
    cases e
    simp only [List.getElem?_eq_getElem hj, Option.map_some, Option.getD_some]
    exact ⟨cell_of (j := 0) hc hs rfl, cell_of (j := 1) hc hs rfl, cell_of (j := 2) hc hs rfl, cell_of (j := 3) hc hs rfl⟩))
  refine Calls.mono this ?_
  rintro e w' ⟨he, hbl⟩
  refine ret_of hs he hbl ?_
  rw [upto_map]
end Go.Wm

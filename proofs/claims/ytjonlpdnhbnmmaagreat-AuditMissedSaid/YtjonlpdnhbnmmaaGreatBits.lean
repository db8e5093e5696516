/-
  Whole numbers of other kinds: bits, shifts, conversions. Conditions: none beyond those of each law.
-/
import Derived.Test.YtjonlpdnhbnmmaaGreatR5
import Derived.Test.YtjonlpdnhbnmmaaGreatCuQ
import Derived.Test.YtjonlpdnhbnmmaaGreatA4
import Derived.Test.YtjonlpdnhbnmmaaGreatCoA
set_option linter.all false
namespace Go.Wm
open Go.RowKit Go.Proofs
attribute [local irreducible] RG CG EG WA Loc Det Alc CT Exit.then Exit.inBlock Code.wp bodyPost

theorem rises_iff : ∀ (l : List Int) (m : Int), risesFrom m l = true ↔ (∀ h : 0 < l.length, m < l[0]) ∧ ∀ i, (h : i + 1 < l.length) → l[i] < l[i + 1]
  | [], m => by simp [risesFrom]
  | x :: r, m => by
    simp only [risesFrom, Bool.and_eq_true, decide_eq_true_eq]
    rw [rises_iff r x]
    constructor
    · rintro ⟨h1, h2, h3⟩
      refine ⟨fun _ => h1, fun i h => ?_⟩
      cases i with
      | zero => exact h2 (by simp at h; omega)
      | succ i => exact h3 i (by simp at h; omega)
    · rintro ⟨h1, h2⟩
      refine ⟨h1 (by simp), fun h => h2 0 (by simp; omega), fun i h => ?_⟩
      have := h2 (i + 1) (by simp; omega)
      simpa using this
theorem ended_prog (l : List Gone) : decide (Ended l) = (!(l.any fun g => !okGone g) && risesFrom (-1) (l.map (·.last))) := by
  rw [Bool.eq_iff_iff]
  simp only [decide_eq_true_eq, Bool.and_eq_true, Bool.not_eq_true', List.any_eq_false, Bool.not_eq_true, Bool.not_eq_false', rises_iff]
  constructor
  · intro h
    refine ⟨fun g hg => ?_, fun h0 => ?_, fun i hi => ?_⟩
    · obtain ⟨i, hi, rfl⟩ := List.getElem_of_mem hg
      simp [(h i hi).1]
    · simp at h0
      have h1 := (h 0 h0).1
      simp only [okGone, Bool.and_eq_true, decide_eq_true_eq] at h1
      simp
      omega
    · simp at hi
      have := (h (i + 1) hi).2 (by omega)
      simpa using this
  · rintro ⟨h1, _, h3⟩ i hi
    refine ⟨by have := h1 l[i] (List.getElem_mem hi); simpa using this, fun h0 => ?_⟩
    obtain ⟨j, rfl⟩ : ∃ j, i = j + 1 := ⟨i - 1, by omega⟩
    have := h3 j (by simp; exact hi)
    simpa using this

theorem lasts_ct {k : PH} (a : Option Addr) (len c : Nat) : CT Tryz.prog 62 #[.slice a len c] k (fun k' v => ∃ Bs, v = .func (.func 90) #[] #[.pointer (some ⟨Bs, 0, none⟩)] ∧ Cells k' Bs 0 [.slice a len c]) := by
  refine ct_of_body (l := [_]) Tryz.func62 rfl Tryz.ntmps62 (by simp) (fun k k' v hle ⟨b, h1, h2⟩ => ⟨b, h1, h2.le hle⟩) fun F hF0 hFm => ?_
  repeat (first | refine cg_seq ?_ | refine cg_region ?_)
  refine rb rfl rfl rfl rfl (a_box rfl rfl) ?_; intro b1 k1 hb1 hN1 hle1 hk1
  have c1 := cells_at (vs := [.slice a len c]) hk1 rfl
  repeat (first | refine cg_seq ?_ | refine cg_region ?_ | refine rg_nil ?_ | refine eg_then ?_ | refine qsp ?_ | refine cg_ret ?_)
  exact eg_return rfl rfl ⟨b1, rfl, c1⟩
end Go.Wm
namespace Go.Wm
open Go.RowKit Go.Proofs
theorem rises_ct {k : PH} {a : Option Addr} {c Bs : Nat} {l : List Gone} (hl : Sl tGone k a c l) (hc : Cells k Bs 0 [.slice a l.length c]) (hb : l.length ≤ 1000000) :
    CT Tryz.prog 71 #[.func (.func 90) #[] #[.pointer (some ⟨Bs, 0, none⟩)]] k (fun _ v => v = .bool (risesFrom (-1) (l.map (·.last)))) := by
  intro w k1 hle hs
  have ho := hl.le hle
  have hbase : ∃ b off, 0 < l.length → a = some ⟨b, off, none⟩ ∧ b < w.heap.size := by
    by_cases h0 : 0 < l.length
    · obtain ⟨b, off, cx, rfl, ⟨rfl, _⟩, hc⟩ := ho.el 0 l[0] (List.getElem?_eq_getElem h0)
      obtain ⟨c, et, fr, h1, _⟩ := hc
      exact ⟨b, off, fun _ => ⟨rfl, (Array.getElem?_eq_some_iff.1 (hs b _ h1)).1⟩⟩
    · exact ⟨0, 0, fun h => absurd h h0⟩
  obtain ⟨b, off, ha⟩ := hbase
  have hBs : w.cell? ⟨Bs, 0, none⟩ = some (.slice a l.length c) := cell_of (j := 0) (off := 0) (hc.le hle) hs rfl
  have hB : Bs < w.heap.size := by
    obtain ⟨c', et, fr, h1, _⟩ := hc.le hle
    exact (Array.getElem?_eq_some_iff.1 (hs Bs _ h1)).1
  have := (callsIn_wide (n := 5)).1 (rises_in Fence.wide 5 trivial trivial rfl (by omega) Bs b off l.length c a (fun j => ((l[j]?).map (·.pid)).getD 0) (fun j => ((l[j]?).map (·.no)).getD 0) (fun j => ((l[j]?).map (·.first)).getD 0) (fun j => ((l[j]?).map (·.last)).getD 0) w (by omega) ha hB hBs (fun j hj => by
    obtain ⟨rfl, _⟩ := ha (by omega)
    obtain ⟨b', off', cx, e, ⟨rfl, _⟩, hc⟩ := ho.el j l[j] (List.getElem?_eq_getElem hj)
    cases e
    simp only [List.getElem?_eq_getElem hj, Option.map_some, Option.getD_some]
    exact ⟨cell_of (j := 0) hc hs rfl, cell_of (j := 1) hc hs rfl, cell_of (j := 2) hc hs rfl, cell_of (j := 3) hc hs rfl⟩))
  refine Calls.mono this ?_
  rintro e w' ⟨he, hbl⟩
  refine ret_of hs he hbl ?_
  rw [upto_map]
end Go.Wm
namespace Go.Wm
open Go.RowKit Go.Proofs
attribute [local irreducible] RG CG EG WA Loc Det Alc CT Exit.then Exit.inBlock Code.wp bodyPost

theorem cmpInt_ge (a b : Int) : decide (cmpInt a b ≥ 0) = !decide (a < b) := by
  rcases cmpInt_cases a b with ⟨h, h2⟩ | ⟨h, h2⟩ | ⟨h, h2⟩
  · rw [h]; simp [h2]
  · rw [h]; simp; omega
  · rw [h]; simp; omega

set_option maxHeartbeats 2000000 in
theorem txCheck_ct {k : PH} {t : Tx} {a0 : Option Addr} {c0 : Nat} {a1 : Option Addr} {c1 : Nat} {a2 : Option Addr} {c2 : Nat} (ht : TxAt k t a0 c0 a1 c1 a2 c2) (hg : t.gone.length ≤ 1000000) (hdn : t.done.length ≤ 1000000) :
    CT Tryz.prog 36 #[.agg (t.cs a0 c0 a1 c1 a2 c2).toArray] k (fun _ v => v = errOf (txP t) 1) := by
  refine ct_of_body (l := [_]) Tryz.func36 rfl Tryz.ntmps36 (by simp) (fun _ _ _ _ h => h) fun F hF0 hFm => ?_
  have b1 := ht.o.cap; have b2 := ht.o.max; unfold maxLen at b2
  repeat (first | refine cg_seq ?_ | refine cg_region ?_)
  refine rb rfl rfl rfl rfl (a_box rfl rfl) ?_; intro b1 k1 hb1 hN1 hle1 hk1
  have cc := cells_at (vs := t.cs a0 c0 a1 c1 a2 c2) hk1 rfl
  have ht := ht.le hle1
  obtain ⟨z0, z1, z2⟩ := Tx.parts cc
  repeat (first | refine cg_seq ?_ | refine cg_region ?_ | refine rg_nil ?_ | refine eg_then ?_ | refine qsp ?_ | refine qsn ?_ | refine qsl ?_ | refine qsf ?_ | refine cg_block ?_)
  refine cg_loop (fun (i : Nat) e k' => Le k1 k' ∧ i ≤ t.openV.length ∧ (∀ j, (h : j < t.openV.length) → j < i → (inO t.openV[j].pid && inO t.openV[j].first) = true ∧ (0 < j → t.openV[j - 1].pid < t.openV[j].pid)) ∧ e = [(1, .is (.pointer (some ⟨b1, 0, none⟩))), (8, .is (.slice a0 t.openV.length c0)), (9, .is (.int .i64 (t.openV.length : Int))), (10, .is (.int .i64 (i : Int)))])
    (fun i => t.openV.length - i) 0 ⟨Le.refl _, Nat.zero_le _, fun j _ hj => by omega, rfl⟩ ⟨rfl, rfl, rfl, rfl, trivial⟩ ?_
  rintro i e k' ⟨hle, hi, hno, rfl⟩
  repeat (first | refine cg_seq ?_ | refine cg_region ?_ | refine rg_nil ?_ | refine eg_then ?_ | refine qsp ?_)
  refine cg_cond rfl (fun h => ?_) (fun h => ?_)
  · have hlt : i < t.openV.length := by simpa using h
    obtain ⟨bx, ox, cx, rfl, ⟨rfl, hok⟩, hcx⟩ := ht.o.el i t.openV[i] (List.getElem?_eq_getElem hlt)
    have hcx1 := hcx.le hle
    have bad : ¬ ((inO t.openV[i].pid && inO t.openV[i].first) = true ∧ (0 < i → t.openV[i - 1].pid < t.openV[i].pid)) → Value.int .i64 1 = errOf (txP t) 1 := fun hb => by
      have : ¬ Opens t.openV := fun ha => hb (ha i hlt)
      simp [errOf, txP, this]
    repeat (first | refine cg_seq ?_ | refine cg_region ?_ | refine eg_then ?_ | refine qsp ?_ | refine qsi ?_ | refine qsg ?_ | refine cg_skip ?_ | refine cg_block ?_)
    refine rb rfl rfl rfl rfl (a_alloc rfl) ?_; intro b7 k7 hb7 hN7 hle7 hk7
    repeat (first | refine qsp ?_)
    refine rw1 rfl rfl rfl rfl rfl rfl rfl hk7 rfl (.inl hN7) ?_ ?_; (simp [Tp.vs, Mark.vs, OpenT.vs, Gone.vs, Tx.cs, View.cs, Rec.vs, Batch.cs, Who.vs, Pl.vs, Told.vs, Fact.vs, Place.vs, Value.oneCell']); intro k8 ht8 hk8
    have c8 := cells_at (vs := t.openV[i].vs) hk8 rfl
    have hle8 : Le k' k8 := ht8 k' hle7 hb7
    have hl8 := hle.trans hle8
    have cc8 := cc.le hl8
    obtain ⟨p0, p1⟩ := OpenT.parts c8
    obtain ⟨z0, z1, z2⟩ := Tx.parts cc8
    repeat (first | refine cg_seq ?_ | refine rg_nil ?_ | refine eg_then ?_)
    refine cg_any (by kernel_rfl) rfl ?_
    repeat (first | refine qwl ?_ | refine qwf ?_)
    refine ws rfl (loc_call_is rfl rfl rfl rfl (beyond_ct t.openV[i].pid)) ?_
    repeat (first | refine qwp ?_)
    cases q1 : inO t.openV[i].pid
    · repeat (first | refine qwp ?_ | refine qwo ?_ | (refine wn rfl ?_; refine eg_then ?_))
      repeat (first | refine cg_seq ?_ | refine cg_region ?_ | refine rg_nil ?_ | refine eg_then ?_ | refine qsp ?_ | refine cg_cond_true rfl ?_ | refine cg_ret ?_ | refine eg_then_ret ?_ | refine eg_in_ret ?_)
      exact eg_return rfl rfl (bad (by simp [q1]))
    repeat (first | refine qwl ?_ | refine qwf ?_)
    refine ws rfl (loc_call_is rfl rfl rfl rfl (beyond_ct t.openV[i].first)) ?_
    repeat (first | refine qwp ?_)
    cases q2 : inO t.openV[i].first
    · repeat (first | refine qwp ?_ | refine qwo ?_ | (refine wn rfl ?_; refine eg_then ?_))
      repeat (first | refine cg_seq ?_ | refine cg_region ?_ | refine rg_nil ?_ | refine eg_then ?_ | refine qsp ?_ | refine cg_cond_true rfl ?_ | refine cg_ret ?_ | refine eg_then_ret ?_ | refine eg_in_ret ?_)
      exact eg_return rfl rfl (bad (by simp [q2]))
    repeat (first | refine qwp ?_)
    cases q7 : decide ((i : Int) > 0)
    · repeat (first | refine qwp ?_ | refine qwo ?_ | (refine wn rfl ?_; refine eg_then ?_))
      repeat (first | refine cg_region ?_ | refine rg_nil ?_ | refine eg_then ?_ | refine qsp ?_ | refine qsa ?_ | refine cg_cond_false rfl ?_ | refine cg_skip ?_ | refine eg_in_normal ?_)
      refine eg_again (i + 1) _ ⟨hl8, hlt, fun j hj hji => ?_, rfl⟩ (by omega) ⟨rfl, rfl, rfl, rfl, trivial⟩
      have : i = 0 := by simp at q7; omega
      have : j = 0 := by omega
      subst this; subst i
      exact ⟨by simp [q1, q2], by omega⟩
    have hi0 : 0 < i := by simp at q7; omega
    have hlt' : i - 1 < t.openV.length := by omega
    obtain ⟨by', oy, cy, ey, ⟨rfl, hok'⟩, hcy⟩ := ht.o.el (i - 1) t.openV[i - 1] (List.getElem?_eq_getElem hlt')
    cases ey
    have hcy1 := hcy.le hl8
    have hsub : ((i - 1 : Nat) : Int) = (i : Int) - 1 := by omega
    repeat (first | refine qwp ?_ | refine qws ?_ | refine qwl ?_ | refine qwf ?_)
    rw [← hsub]
    repeat (first | refine qwi ?_ | refine qwl ?_ | refine qwg ?_ | refine qwf ?_)
    refine ws rfl (loc_call_is rfl rfl rfl rfl (txOrder_ct t.openV[i - 1] t.openV[i].pid)) ?_
    repeat (first | refine qwp ?_ | (refine wn rfl ?_; refine eg_then ?_))
    rw [cmpInt_ge]
    skip
    cases q8 : decide (t.openV[i - 1].pid < t.openV[i].pid)
    · skip
      repeat (first | refine cg_seq ?_ | refine cg_region ?_ | refine rg_nil ?_ | refine eg_then ?_ | refine qsp ?_ | refine cg_cond_true rfl ?_ | refine cg_ret ?_ | refine eg_then_ret ?_ | refine eg_in_ret ?_)
      exact eg_return rfl rfl (bad (by rintro ⟨_, h3⟩; have := h3 hi0; simp at q8; omega))
    · skip
      repeat (first | refine cg_region ?_ | refine rg_nil ?_ | refine eg_then ?_ | refine qsp ?_ | refine qsa ?_ | refine cg_cond_false rfl ?_ | refine cg_skip ?_ | refine eg_in_normal ?_)
      refine eg_again (i + 1) _ ⟨hl8, hlt, fun j hj hji => ?_, rfl⟩ (by omega) ⟨rfl, rfl, rfl, rfl, trivial⟩
      by_cases e : j = i
      · subst e
        exact ⟨by simp [q1, q2], fun _ => by simp at q8; omega⟩
      · exact hno j hj (by omega)
  · have hin : i = t.openV.length := by simp at h; omega
    have hop : Opens t.openV := fun j hj => hno j hj (by omega)
    have hd : txP t = (decide (Ended t.gone) && decide (Ended t.done)) := by unfold txP; rw [decide_eq_true hop, Bool.true_and]
    have cc8 := cc.le hle
    obtain ⟨z0, z1, z2⟩ := Tx.parts cc8
    repeat (first | refine cg_seq ?_ | refine cg_region ?_ | refine eg_then ?_ | refine qsl ?_ | refine qsf ?_ | refine cg_exit ?_ | refine eg_then_exit ?_ | refine eg_in_exit ?_)
    refine rb rfl rfl rfl rfl (a_slice (cells := [.slice a1 t.gone.length c1, .slice a2 t.done.length c2]) rfl rfl rfl rfl (by kernel_rfl) rfl) ?_; intro b11 k11 hb11 hN11 hle11 hk11
    have hl11 := hle.trans hle11
    have hL : Sl (tSl tGone) k11 (some ⟨b11, 0, none⟩) 2 [t.gone, t.done] := sl_rows (T := tSl tGone) (xs := [t.gone, t.done]) (css := [[.slice a1 t.gone.length c1], [.slice a2 t.done.length c2]]) hk11 rfl rfl (fun i cs x h1 h2 => by
      rcases i with _ | _ | i <;> simp at h1 h2
      · subst h1; subst h2
        exact ⟨a1, c1, rfl, ht.g.le hl11⟩
      · subst h1; subst h2
        exact ⟨a2, c2, rfl, ht.d.le hl11⟩) (by simp [maxLen])
    repeat (first | refine rg_nil ?_ | refine eg_then ?_ | refine qsp ?_ | refine qsn ?_ | refine cg_block ?_)
    refine cg_loop (fun (i : Nat) e k' => Le k11 k' ∧ i ≤ 2 ∧ (∀ j, (h : j < [t.gone, t.done].length) → j < i → Ended [t.gone, t.done][j]) ∧ e = [(44, .is (.slice (some ⟨b11, 0, none⟩) 2 2)), (45, .is (.int .i64 2)), (46, .is (.int .i64 (i : Int)))])
      (fun i => 2 - i) 0 ⟨Le.refl _, Nat.zero_le _, fun j _ hj => by omega, rfl⟩ ⟨rfl, rfl, rfl, trivial⟩ ?_
    rintro i e k2 ⟨hle2, hi, hno, rfl⟩
    repeat (first | refine cg_seq ?_ | refine cg_region ?_ | refine rg_nil ?_ | refine eg_then ?_ | refine qsp ?_)
    refine cg_cond rfl (fun h => ?_) (fun h => ?_)
    · have hlt : i < 2 := by simp at h; omega
      have hli : i < [t.gone, t.done].length := by simpa using hlt
      obtain ⟨bx, ox, cx, ebx, ⟨al, cl, rfl, hsl⟩, hcx⟩ := (hL.le hle2).el i [t.gone, t.done][i] (List.getElem?_eq_getElem hli)
      cases ebx
      have hbl : [t.gone, t.done][i].length ≤ 1000000 := by
        have := List.getElem_mem hli
        simp only [List.mem_cons, List.not_mem_nil, or_false] at this
        rcases this with h | h <;> rw [h] <;> assumption
      have bad : ¬ Ended [t.gone, t.done][i] → Value.int .i64 1 = errOf (txP t) 1 := fun hb => by
        have : ¬ (Ended t.gone ∧ Ended t.done) := by
          rintro ⟨h1, h2⟩
          apply hb
          have := List.getElem_mem hli
          simp only [List.mem_cons, List.not_mem_nil, or_false] at this
          rcases this with h | h <;> rw [h] <;> assumption
        rw [hd]
        simp only [errOf, Bool.and_eq_true, decide_eq_true_eq]
        rw [if_neg this]
      obtain ⟨g, hgg⟩ : ∃ g, [t.gone, t.done][i] = g := ⟨_, rfl⟩
      rw [hgg] at hsl hcx hbl bad
      have hep := ended_prog g
      have hcall := containsFuncGone_ct hsl (g := 70) (cap := #[]) (fun g => !okGone g) (fun m hm cm hcm => by
        obtain ⟨rfl, _⟩ := hcm
        exact odd_ct m)
      repeat (first | refine cg_seq ?_ | refine cg_region ?_ | refine rg_nil ?_ | refine eg_then ?_ | refine qsp ?_ | refine qsi ?_ | refine qsl ?_ | refine cg_skip ?_ | refine cg_block ?_)
      refine rs rfl rfl (loc_call_is rfl rfl rfl rfl (hcall)) ?_
      repeat (first | refine qsp ?_)
      cases q1 : g.any (fun g => !okGone g)
      rotate_left
      · repeat (first | refine cg_seq ?_ | refine cg_region ?_ | refine rg_nil ?_ | refine eg_then ?_ | refine qsp ?_ | refine qso ?_ | refine cg_cond_true rfl ?_ | refine cg_ret ?_ | refine eg_then_ret ?_ | refine eg_in_ret ?_)
        exact eg_return rfl rfl (bad (fun he => by rw [decide_eq_true he, q1] at hep; simp at hep))
      repeat (first | refine qsp ?_)
      refine rv rfl rfl rfl (loc_call rfl rfl rfl rfl (fun k k' v hle ⟨b, h1, h2⟩ => ⟨b, h1, h2.le hle⟩) (lasts_ct al g.length cl)) ?_
      rintro k3 hle3 _ ⟨Bs, rfl, hcb⟩
      skip
      refine rs rfl rfl (loc_call_is rfl rfl rfl rfl (rises_ct (hsl.le hle3) hcb hbl)) ?_
      repeat (first | refine rg_nil ?_ | refine eg_then ?_ | refine qsp ?_)
      rw [q1] at hep
      simp only [Bool.not_false, Bool.true_and] at hep
      rw [← hep]
      by_cases he : Ended g
      · rw [decide_eq_true he]
        repeat (first | refine cg_region ?_ | refine rg_nil ?_ | refine eg_then ?_ | refine qsp ?_ | refine qsa ?_ | refine cg_cond_false rfl ?_ | refine cg_skip ?_ | refine eg_in_normal ?_)
        refine eg_again (i + 1) _ ⟨hle2.trans hle3, hlt, fun j hj hji => ?_, rfl⟩ (by omega) ⟨rfl, rfl, rfl, trivial⟩
        by_cases e : j = i
        · subst e
          rw [hgg]
          exact he
        · exact hno j hj (by omega)
      · rw [decide_eq_false he]
        repeat (first | refine cg_seq ?_ | refine cg_region ?_ | refine rg_nil ?_ | refine eg_then ?_ | refine qsp ?_ | refine cg_cond_true rfl ?_ | refine cg_ret ?_ | refine eg_then_ret ?_ | refine eg_in_ret ?_)
        exact eg_return rfl rfl (bad he)
    · have hi2 : i = 2 := by simp at h; omega
      subst hi2
      have e1 : Ended t.gone := hno 0 (by simp) (by omega)
      have e2 : Ended t.done := hno 1 (by simp) (by omega)
      repeat (first | refine cg_seq ?_ | refine cg_region ?_ | refine rg_nil ?_ | refine eg_then ?_ | refine qsp ?_ | refine cg_ret ?_ | refine cg_exit ?_ | refine eg_then_exit ?_ | refine eg_in_exit ?_)
      refine eg_return rfl rfl ?_
      simp [hd, e1, e2, errOf]
end Go.Wm
namespace Go.Wm
open Go.RowKit

theorem wrap_uns {kd : IntKind} (h : kd.signed = false) (n : Int) : kd.wrap n = n % (2 ^ kd.bits : Int) := by simp [IntKind.wrap, h]
theorem wrap_nat {kd : IntKind} (h : kd.signed = false) (n : Nat) : kd.wrap (n : Int) = ((n % 2 ^ kd.bits : Nat) : Int) := by
  rw [wrap_uns h]; simp
theorem ofInt_nat (B n : Nat) : BitVec.ofInt B (n : Int) = BitVec.ofNat B n := by simp
section
variable {P : Program} {o : Oper} {e : Env} {k : PH} {t t' : TypeId} {x y : Operand}
/-- Of a kind without a sign. -/
theorem d_xorN {kd : IntKind} {a b : Nat} (hs : kd.signed = false) (hop : o.op = .binOp .xor t x y t') (hx : opv e x = some (.int kd (a : Int))) (hy : opv e y = some (.int kd (b : Int))) (ha : a < 2 ^ kd.bits) (hb : b < 2 ^ kd.bits) : Det P e k o (.int kd ((a ^^^ b : Nat) : Int)) := by
  intro ev w hev _
  rw [hop] at hev
  have e1 := hev x (by simp [Op.operands]) _ hx
  have e2 := hev y (by simp [Op.operands]) _ hy
  have hlt : a ^^^ b < 2 ^ kd.bits := Nat.xor_lt_two_pow ha hb
  have h6 : (Op.intBits .xor kd (a : Int) (b : Int)).run P w = .ok (.int kd ((a ^^^ b : Nat) : Int)) w := by
    show Result.ok (Value.int kd (kd.wrap (((BitVec.ofInt kd.bits (a : Int) ^^^ BitVec.ofInt kd.bits (b : Int)).toNat : Nat) : Int))) w = _
    rw [ofInt_nat, ofInt_nat, BitVec.toNat_xor, BitVec.toNat_ofNat, BitVec.toNat_ofNat, Nat.mod_eq_of_lt ha, Nat.mod_eq_of_lt hb, wrap_nat hs, Nat.mod_eq_of_lt hlt]
  simp [execOp, hop, e1, e2, eqGuard, binOp, h6]
theorem d_andN {kd : IntKind} {a b : Nat} (hs : kd.signed = false) (hop : o.op = .binOp .and t x y t') (hx : opv e x = some (.int kd (a : Int))) (hy : opv e y = some (.int kd (b : Int))) (ha : a < 2 ^ kd.bits) (hb : b < 2 ^ kd.bits) : Det P e k o (.int kd ((a &&& b : Nat) : Int)) := by
  intro ev w hev _
  rw [hop] at hev
  have e1 := hev x (by simp [Op.operands]) _ hx
  have e2 := hev y (by simp [Op.operands]) _ hy
  have hlt : a &&& b < 2 ^ kd.bits := Nat.lt_of_le_of_lt Nat.and_le_left ha
  have h6 : (Op.intBits .and kd (a : Int) (b : Int)).run P w = .ok (.int kd ((a &&& b : Nat) : Int)) w := by
    show Result.ok (Value.int kd (kd.wrap (((BitVec.ofInt kd.bits (a : Int) &&& BitVec.ofInt kd.bits (b : Int)).toNat : Nat) : Int))) w = _
    rw [ofInt_nat, ofInt_nat, BitVec.toNat_and, BitVec.toNat_ofNat, BitVec.toNat_ofNat, Nat.mod_eq_of_lt ha, Nat.mod_eq_of_lt hb, wrap_nat hs, Nat.mod_eq_of_lt hlt]
  simp [execOp, hop, e1, e2, eqGuard, binOp, h6]
theorem d_orN {kd : IntKind} {a b : Nat} (hs : kd.signed = false) (hop : o.op = .binOp .or t x y t') (hx : opv e x = some (.int kd (a : Int))) (hy : opv e y = some (.int kd (b : Int))) (ha : a < 2 ^ kd.bits) (hb : b < 2 ^ kd.bits) : Det P e k o (.int kd ((a ||| b : Nat) : Int)) := by
  intro ev w hev _
  rw [hop] at hev
  have e1 := hev x (by simp [Op.operands]) _ hx
  have e2 := hev y (by simp [Op.operands]) _ hy
  have hlt : a ||| b < 2 ^ kd.bits := Nat.or_lt_two_pow ha hb
  have h6 : (Op.intBits .or kd (a : Int) (b : Int)).run P w = .ok (.int kd ((a ||| b : Nat) : Int)) w := by
    show Result.ok (Value.int kd (kd.wrap (((BitVec.ofInt kd.bits (a : Int) ||| BitVec.ofInt kd.bits (b : Int)).toNat : Nat) : Int))) w = _
    rw [ofInt_nat, ofInt_nat, BitVec.toNat_or, BitVec.toNat_ofNat, BitVec.toNat_ofNat, Nat.mod_eq_of_lt ha, Nat.mod_eq_of_lt hb, wrap_nat hs, Nat.mod_eq_of_lt hlt]
  simp [execOp, hop, e1, e2, eqGuard, binOp, h6]
theorem d_shlN {kd ky : IntKind} {a b : Nat} (hs : kd.signed = false) (hop : o.op = .binOp .shl t x y t') (hx : opv e x = some (.int kd (a : Int))) (hy : opv e y = some (.int ky (b : Int))) (hb : b ≤ kd.bits) : Det P e k o (.int kd ((a * 2 ^ b % 2 ^ kd.bits : Nat) : Int)) := by
  intro ev w hev _
  rw [hop] at hev
  have e1 := hev x (by simp [Op.operands]) _ hx
  have e2 := hev y (by simp [Op.operands]) _ hy
  have h0 : ¬ ((b : Int) < 0) := by omega
  have h1 : min (b : Int).toNat kd.bits = b := by simp; exact Nat.min_eq_left hb
  have h6 : (Op.shift .shl kd (a : Int) ky (b : Int)).run P w = .ok (.int kd ((a * 2 ^ b % 2 ^ kd.bits : Nat) : Int)) w := by
    unfold Op.shift
    rw [if_neg h0]
    show Result.ok (Value.int kd (kd.wrap ((a : Int) * 2 ^ (min (b : Int).toNat kd.bits)))) w = _
    rw [h1, show ((a : Int) * 2 ^ b) = ((a * 2 ^ b : Nat) : Int) by simp, wrap_nat hs]
  simp [execOp, hop, e1, e2, eqGuard, binOp, h6]
theorem d_shrN {kd ky : IntKind} {a b : Nat} (hop : o.op = .binOp .shr t x y t') (hx : opv e x = some (.int kd (a : Int))) (hy : opv e y = some (.int ky (b : Int))) (hb : b ≤ kd.bits) : Det P e k o (.int kd ((a / 2 ^ b : Nat) : Int)) := by
  intro ev w hev _
  rw [hop] at hev
  have e1 := hev x (by simp [Op.operands]) _ hx
  have e2 := hev y (by simp [Op.operands]) _ hy
  have h0 : ¬ ((b : Int) < 0) := by omega
  have h1 : min (b : Int).toNat kd.bits = b := by simp; exact Nat.min_eq_left hb
  have h6 : (Op.shift .shr kd (a : Int) ky (b : Int)).run P w = .ok (.int kd ((a / 2 ^ b : Nat) : Int)) w := by
    unfold Op.shift
    rw [if_neg h0]
    show Result.ok (Value.int kd ((a : Int).fdiv (2 ^ (min (b : Int).toNat kd.bits)))) w = _
    rw [h1]
    congr 2
    rw [Int.fdiv_eq_ediv_of_nonneg _ (by exact Int.pow_nonneg (by decide))]
    simp
  simp [execOp, hop, e1, e2, eqGuard, binOp, h6]
/-- A whole number, shifted to the right by 63: its sign. -/
theorem d_sign {ky : IntKind} {a : Int} (ha : -9223372036854775808 ≤ a ∧ a ≤ 9223372036854775807) (hop : o.op = .binOp .shr t x y t') (hx : opv e x = some (.int .i64 a)) (hy : opv e y = some (.int ky 63)) : Det P e k o (.int .i64 (if a < 0 then -1 else 0)) := by
  intro ev w hev _
  rw [hop] at hev
  have e1 := hev x (by simp [Op.operands]) _ hx
  have e2 := hev y (by simp [Op.operands]) _ hy
  have h6 : (Op.shift .shr .i64 a ky 63).run P w = .ok (.int .i64 (if a < 0 then -1 else 0)) w := by
    show Result.ok (Value.int .i64 (a.fdiv 9223372036854775808)) w = _
    congr 2
    rw [Int.fdiv_eq_ediv_of_nonneg _ (by decide)]
    split <;> omega
  simp [execOp, hop, e1, e2, eqGuard, binOp, h6]
theorem d_addk {kd : IntKind} {a b : Int} (hop : o.op = .binOp .add t x y t') (hx : opv e x = some (.int kd a)) (hy : opv e y = some (.int kd b)) : Det P e k o (.int kd (kd.wrap (a + b))) := by
  intro ev w hev _
  rw [hop] at hev
  have e1 := hev x (by simp [Op.operands]) _ hx
  have e2 := hev y (by simp [Op.operands]) _ hy
  simp [execOp, hop, e1, e2, eqGuard, binOp, Op.intArith]
theorem d_mulk {kd : IntKind} {a b : Int} (hop : o.op = .binOp .mul t x y t') (hx : opv e x = some (.int kd a)) (hy : opv e y = some (.int kd b)) : Det P e k o (.int kd (kd.wrap (a * b))) := by
  intro ev w hev _
  rw [hop] at hev
  have e1 := hev x (by simp [Op.operands]) _ hx
  have e2 := hev y (by simp [Op.operands]) _ hy
  simp [execOp, hop, e1, e2, eqGuard, binOp, Op.intArith]
theorem d_negk {kd : IntKind} {a : Int} (hop : o.op = .unOp .neg t x) (hx : opv e x = some (.int kd a)) : Det P e k o (.int kd (kd.wrap (0 - a))) := by
  intro ev w hev _
  rw [hop] at hev
  have e1 := hev x (by simp [Op.operands]) _ hx
  simp [execOp, hop, e1, Op.unary, Op.intArith]
/-- All bits turned. -/
theorem d_notN {kd : IntKind} {a : Nat} (hs : kd.signed = false) (hop : o.op = .unOp .xor t x) (hx : opv e x = some (.int kd (a : Int))) (ha : a < 2 ^ kd.bits) : Det P e k o (.int kd (((2 ^ kd.bits - 1) ^^^ a : Nat) : Int)) := by
  intro ev w hev _
  rw [hop] at hev
  have e1 := hev x (by simp [Op.operands]) _ hx
  have hpos : 0 < 2 ^ kd.bits := Nat.two_pow_pos _
  have hb : 2 ^ kd.bits - 1 < 2 ^ kd.bits := by omega
  have hlt : (2 ^ kd.bits - 1) ^^^ a < 2 ^ kd.bits := Nat.xor_lt_two_pow hb ha
  have hm : kd.max = ((2 ^ kd.bits - 1 : Nat) : Int) := by
    unfold IntKind.max
    rw [hs]
    simp only [Bool.false_eq_true, if_false]
    rw [Int.ofNat_sub hpos]
    simp
  have h6 : (Op.intBits .xor kd kd.max (a : Int)).run P w = .ok (.int kd (((2 ^ kd.bits - 1) ^^^ a : Nat) : Int)) w := by
    rw [hm]
    show Result.ok (Value.int kd (kd.wrap (((BitVec.ofInt kd.bits ((2 ^ kd.bits - 1 : Nat) : Int) ^^^ BitVec.ofInt kd.bits (a : Int)).toNat : Nat) : Int))) w = _
    rw [ofInt_nat, ofInt_nat, BitVec.toNat_xor, BitVec.toNat_ofNat, BitVec.toNat_ofNat, Nat.mod_eq_of_lt ha, Nat.mod_eq_of_lt hb, wrap_nat hs, Nat.mod_eq_of_lt hlt]
  simp [execOp, hop, e1, Op.unary, hs, h6]
theorem d_quoN {kd : IntKind} {a b : Nat} (hs : kd.signed = false) (hop : o.op = .binOp .quo t x y t') (hx : opv e x = some (.int kd (a : Int))) (hy : opv e y = some (.int kd (b : Int))) (hb : 0 < b) (ha : a < 2 ^ kd.bits) : Det P e k o (.int kd ((a / b : Nat) : Int)) := by
  intro ev w hev _
  rw [hop] at hev
  have e1 := hev x (by simp [Op.operands]) _ hx
  have e2 := hev y (by simp [Op.operands]) _ hy
  have h0 : ¬ (b : Int) = 0 := by omega
  have h2 : ((a : Int).tdiv (b : Int)) = ((a / b : Nat) : Int) := rfl
  have h3 : a / b < 2 ^ kd.bits := Nat.lt_of_le_of_lt (Nat.div_le_self _ _) ha
  have h4 : kd.wrap ((a / b : Nat) : Int) = ((a / b : Nat) : Int) := by rw [wrap_nat hs, Nat.mod_eq_of_lt h3]
  simp only [execOp, hop, e1, e2, eqGuard, binOp, Op.intDiv, h0, if_false, h2, h4]
  simp
theorem d_remN {kd : IntKind} {a b : Nat} (hop : o.op = .binOp .rem t x y t') (hx : opv e x = some (.int kd (a : Int))) (hy : opv e y = some (.int kd (b : Int))) (hb : 0 < b) : Det P e k o (.int kd ((a % b : Nat) : Int)) := by
  intro ev w hev _
  rw [hop] at hev
  have e1 := hev x (by simp [Op.operands]) _ hx
  have e2 := hev y (by simp [Op.operands]) _ hy
  have h0 : ¬ (b : Int) = 0 := by omega
  have h2 : ((a : Int).tmod (b : Int)) = ((a % b : Nat) : Int) := rfl
  simp only [execOp, hop, e1, e2, eqGuard, binOp, Op.intDiv, h0, if_false, h2]
  simp
/-- A whole number becomes one of another kind. -/
theorem d_conv {src dst : TypeId} {d : TypeDesc} {kd kx : IntKind} {a : Int} [hs : TyU P src d] [hd : TyU P dst (.int kd)] (hop : o.op = .convert src dst x) (hx : opv e x = some (.int kx a)) : Det P e k o (.int kd (kd.wrap a)) := by
  intro ev w hev _
  rw [hop] at hev
  have e1 := hev x (by simp [Op.operands]) _ hx
  have : (convert src dst (.int kx a)).run P w = .ok (.int kd (kd.wrap a)) w := by
    simp [convert, run_underlying hs.eq, run_underlying hd.eq, Conv.intToInt]
  simp [execOp, hop, e1, this]
/-- A place in an array. -/
theorem d_idxA {et : TypeId} {ix : Operand} {b off L i sz bs : Nat} {z : Value} {kd : IntKind} [h : TyU P t (.array L et)] [hi : TyI P et sz bs z] (hop : o.op = .indexAddr t x ix) (hx : opv e x = some (.pointer (some ⟨b, off, none⟩)))
    (hy : opv e ix = some (.int kd (i : Int))) (hlt : i < L) : Det P e k o (.pointer (some ⟨b, off + i * sz, none⟩)) := by
  intro ev w hev _
  rw [hop] at hev
  obtain ⟨inf, hi1, hi2, _⟩ := hi.eq
  have h3 : (i : Int) < (L : Int) := by omega
  simp [execOp, hop, hev x (by simp [Op.operands]) _ hx, hev ix (by simp [Op.operands]) _ hy, Instr.indexAt, Instr.sureAddr, asIntOf, run_underlying h.eq, h3, run_size hi1, hi2, addr_add, Nat.not_le.2 hlt, hlt]
end
end Go.Wm

/-
  Whether an offset is behind all that transactions tell, the program's, as a contract. Conditions: that what is handed in reads as data.
-/
import Derived.Test.YtjonlpdnhbnmmaaGreatR5
import Derived.Test.YtjonlpdnhbnmmaaGreatBits
import Derived.Test.YtjonlpdnhbnmmaaGreatX8
set_option linter.all false
namespace Go.Wm
open Go.RowKit Go.Proofs
attribute [local irreducible] RG CG EG WA Loc Det Alc CT Exit.then Exit.inBlock Code.wp bodyPost

theorem firsts_ct {k : PH} (a : Option Addr) (len c : Nat) : CT Tryz.prog 48 #[.slice a len c] k (fun k' v => ∃ Bs, v = .func (.func 79) #[] #[.pointer (some ⟨Bs, 0, none⟩)] ∧ Cells k' Bs 0 [.slice a len c]) := by
  refine ct_of_body (l := [_]) Tryz.func48 rfl Tryz.ntmps48 (by simp) (fun k k' v hle ⟨b, h1, h2⟩ => ⟨b, h1, h2.le hle⟩) fun F hF0 hFm => ?_
  repeat (first | refine cg_seq ?_ | refine cg_region ?_)
  refine rb rfl rfl rfl rfl (a_box rfl rfl) ?_; intro b1 k1 hb1 hN1 hle1 hk1
  have c1 := cells_at (vs := [.slice a len c]) hk1 rfl
  repeat (first | refine cg_seq ?_ | refine cg_region ?_ | refine rg_nil ?_ | refine eg_then ?_ | refine qsp ?_ | refine cg_ret ?_)
  exact eg_return rfl rfl ⟨b1, rfl, c1⟩
end Go.Wm
namespace Go.Wm
open Go.RowKit Go.Proofs
/-- Is an offset behind all that transactions tell? -/
def behindB (t : Tx) (base : Int) : Bool := (t.openV.map (·.first)).all (fun x => decide (x < base)) && ((t.gone.map (·.last)).all (fun x => decide (x < base)) && (t.done.map (·.last)).all (fun x => decide (x < base)))
theorem base_of {α : Type} {T : Ty α} {k : PH} {w : World} {a : Option Addr} {c : Nat} {l : List α} (ho : Sl T k a c l) (hs : Sub k w) : ∃ b off, 0 < l.length → a = some ⟨b, off, none⟩ ∧ b < w.heap.size := by
  by_cases h0 : 0 < l.length
  · obtain ⟨b, off, cx, rfl, _, hc⟩ := ho.el 0 l[0] (List.getElem?_eq_getElem h0)
    obtain ⟨c, et, fr, h1, _⟩ := hc
    exact ⟨b, off, fun _ => ⟨rfl, (Array.getElem?_eq_some_iff.1 (hs b _ h1)).1⟩⟩
  · exact ⟨0, 0, fun h => absurd h h0⟩
theorem cells_lt {k : PH} {w : World} {b off : Nat} {vs : List Value} (h : Cells k b off vs) (hs : Sub k w) : b < w.heap.size := by
  obtain ⟨c', et, fr, h1, _⟩ := h
  exact (Array.getElem?_eq_some_iff.1 (hs b _ h1)).1

set_option maxHeartbeats 1000000 in
theorem behind_ct {k : PH} {t : Tx} {a0 : Option Addr} {c0 : Nat} {a1 : Option Addr} {c1 : Nat} {a2 : Option Addr} {c2 ba B0 B1 B2 : Nat} (base : Int) (ht : TxAt k t a0 c0 a1 c1 a2 c2) (ho : t.openV.length ≤ 1000000) (hg : t.gone.length ≤ 1000000) (hd : t.done.length ≤ 1000000)
    (h0 : Cells k B0 0 [.slice a0 t.openV.length c0]) (h1 : Cells k B1 0 [.slice a1 t.gone.length c1]) (h2 : Cells k B2 0 [.slice a2 t.done.length c2])
    (hall : Cells k ba 0 [.func (.func 79) #[] #[.pointer (some ⟨B0, 0, none⟩)], .func (.func 90) #[] #[.pointer (some ⟨B1, 0, none⟩)], .func (.func 90) #[] #[.pointer (some ⟨B2, 0, none⟩)]]) :
    CT Tryz.prog 61 #[.int .i64 base, .slice (some ⟨ba, 0, none⟩) 3 3] k (fun _ v => v = .bool (behindB t base)) := by
  intro w k1 hle hs
  obtain ⟨b0, off0, ha0⟩ := base_of (ht.o.le hle) hs
  obtain ⟨b1, off1, ha1⟩ := base_of (ht.g.le hle) hs
  obtain ⟨b2, off2, ha2⟩ := base_of (ht.d.le hle) hs
  have q0 := cell_of (j := 0) (h0.le hle) hs rfl
  have q1 := cell_of (j := 0) (h1.le hle) hs rfl
  have q2 := cell_of (j := 0) (h2.le hle) hs rfl
  have L0 := cells_lt (h0.le hle) hs
  have L1 := cells_lt (h1.le hle) hs
  have L2 := cells_lt (h2.le hle) hs
  obtain ⟨f0, hf0⟩ : ∃ f : Nat → Int, f = fun j => ((t.openV[j]?).map (·.first)).getD 0 := ⟨_, rfl⟩
  obtain ⟨f1, hf1⟩ : ∃ f : Nat → Int, f = fun j => ((t.gone[j]?).map (·.last)).getD 0 := ⟨_, rfl⟩
  obtain ⟨f2, hf2⟩ : ∃ f : Nat → Int, f = fun j => ((t.done[j]?).map (·.last)).getD 0 := ⟨_, rfl⟩
  have x0 : ∀ j, j < t.openV.length → w.cell? ⟨b0, off0 + j * 2, none⟩ = some (.int .i64 (((t.openV[j]?).map (·.pid)).getD 0)) ∧ w.cell? ⟨b0, off0 + j * 2 + 1, none⟩ = some (.int .i64 (f0 j)) := fun j hj => by
    obtain ⟨rfl, _⟩ := ha0 (by omega)
    obtain ⟨b', off', cx, e, ⟨rfl, _⟩, hc⟩ := (ht.o.le hle).el j t.openV[j] (List.getElem?_eq_getElem hj)
    cases e
    simp only [hf0, List.getElem?_eq_getElem hj, Option.map_some, Option.getD_some]
    exact ⟨cell_of (j := 0) hc hs rfl, cell_of (j := 1) hc hs rfl⟩
  have x1 : ∀ j, j < t.gone.length → w.cell? ⟨b1, off1 + j * 4, none⟩ = some (.int .i64 (((t.gone[j]?).map (·.pid)).getD 0)) ∧ w.cell? ⟨b1, off1 + j * 4 + 1, none⟩ = some (.int .i64 (((t.gone[j]?).map (·.no)).getD 0)) ∧ w.cell? ⟨b1, off1 + j * 4 + 2, none⟩ = some (.int .i64 (((t.gone[j]?).map (·.first)).getD 0)) ∧ w.cell? ⟨b1, off1 + j * 4 + 3, none⟩ = some (.int .i64 (f1 j)) := fun j hj => by
    obtain ⟨rfl, _⟩ := ha1 (by omega)
    obtain ⟨b', off', cx, e, ⟨rfl, _⟩, hc⟩ := (ht.g.le hle).el j t.gone[j] (List.getElem?_eq_getElem hj)
    cases e
    simp only [hf1, List.getElem?_eq_getElem hj, Option.map_some, Option.getD_some]
    exact ⟨cell_of (j := 0) hc hs rfl, cell_of (j := 1) hc hs rfl, cell_of (j := 2) hc hs rfl, cell_of (j := 3) hc hs rfl⟩
  have x2 : ∀ j, j < t.done.length → w.cell? ⟨b2, off2 + j * 4, none⟩ = some (.int .i64 (((t.done[j]?).map (·.pid)).getD 0)) ∧ w.cell? ⟨b2, off2 + j * 4 + 1, none⟩ = some (.int .i64 (((t.done[j]?).map (·.no)).getD 0)) ∧ w.cell? ⟨b2, off2 + j * 4 + 2, none⟩ = some (.int .i64 (((t.done[j]?).map (·.first)).getD 0)) ∧ w.cell? ⟨b2, off2 + j * 4 + 3, none⟩ = some (.int .i64 (f2 j)) := fun j hj => by
    obtain ⟨rfl, _⟩ := ha2 (by omega)
    obtain ⟨b', off', cx, e, ⟨rfl, _⟩, hc⟩ := (ht.d.le hle).el j t.done[j] (List.getElem?_eq_getElem hj)
    cases e
    simp only [hf2, List.getElem?_eq_getElem hj, Option.map_some, Option.getD_some]
    exact ⟨cell_of (j := 0) hc hs rfl, cell_of (j := 1) hc hs rfl, cell_of (j := 2) hc hs rfl, cell_of (j := 3) hc hs rfl⟩
  obtain ⟨ys, hys⟩ : ∃ ys : Nat → List Int, ys = fun j => match j with | 0 => uptoN f0 t.openV.length | 1 => uptoN f1 t.gone.length | _ => uptoN f2 t.done.length := ⟨_, rfl⟩
  have y0 : ys 0 = uptoN f0 t.openV.length := by simp only [hys]
  have y1 : ys 1 = uptoN f1 t.gone.length := by simp only [hys]
  have y2 : ys 2 = uptoN f2 t.done.length := by simp only [hys]
  have c3 : ∀ {p : Nat → Prop}, p 0 → p 1 → p 2 → ∀ j, j < 3 → p j := fun h0 h1 h2 j hj => by
    match j, hj with
    | 0, _ => exact h0
    | 1, _ => exact h1
    | 2, _ => exact h2
  have := (callsIn_wide (n := 5)).1 (behind_in Fence.wide 5 trivial rfl (by omega) base ba 0 (fun j => match j with | 0 => 79 | _ => 90) (fun j => match j with | 0 => B0 | 1 => B1 | _ => B2) ys
    (fun j => match j with | 0 => fun pre => ∃ k, k ≤ t.openV.length ∧ pre = uptoN f0 k | 1 => fun pre => ∃ k, k ≤ t.gone.length ∧ pre = uptoN f1 k | _ => fun pre => ∃ k, k ≤ t.done.length ∧ pre = uptoN f2 k) w (cells_lt (hall.le hle) hs)
    (c3 (cell_of (j := 0) (hall.le hle) hs rfl) (cell_of (j := 1) (hall.le hle) hs rfl) (cell_of (j := 2) (hall.le hle) hs rfl)) (fun _ _ => trivial)
    (c3 (enters_of Tryz.func79 (by kernel_rfl) rfl) (enters_of Tryz.func90 (by kernel_rfl) rfl) (enters_of Tryz.func90 (by kernel_rfl) rfl))
    (fun j pre hj => c3 (p := fun j => (match j with | 0 => fun pre => ∃ k, k ≤ t.openV.length ∧ pre = uptoN f0 k | 1 => fun pre => ∃ k, k ≤ t.gone.length ∧ pre = uptoN f1 k | _ => fun pre => ∃ k, k ≤ t.done.length ∧ pre = uptoN f2 k : List Int → Prop) pre → ∃ r, ys j = pre ++ r)
      (by rintro ⟨k, hk, rfl⟩; rw [y0]; exact upto_prefix f0 hk) (by rintro ⟨k, hk, rfl⟩; rw [y1]; exact upto_prefix f1 hk) (by rintro ⟨k, hk, rfl⟩; rw [y2]; exact upto_prefix f2 hk) j hj)
    (c3
      (fun w1 hb => by
        rw [y0, uptoN_length]
        exact firsts_stops Fence.wide 4 trivial rfl (by omega) B0 w.heap.size b0 off0 t.openV.length c0 a0 _ f0 (by omega) ha0 w1 (Nat.lt_of_lt_of_le L0 hb.size) hb.size ((hb.cell (p := ⟨B0, 0, none⟩) L0).trans q0) (fun j hj => by
          obtain ⟨_, hlt⟩ := ha0 (by omega)
          exact ⟨(hb.cell (p := ⟨b0, off0 + j * 2, none⟩) hlt).trans (x0 j hj).1, (hb.cell (p := ⟨b0, off0 + j * 2 + 1, none⟩) hlt).trans (x0 j hj).2⟩))
      (fun w1 hb => by
        rw [y1, uptoN_length]
        exact lasts_stops Fence.wide 4 trivial rfl (by omega) B1 w.heap.size b1 off1 t.gone.length c1 a1 _ _ _ f1 (by omega) ha1 w1 (Nat.lt_of_lt_of_le L1 hb.size) hb.size ((hb.cell (p := ⟨B1, 0, none⟩) L1).trans q1) (fun j hj => by
          obtain ⟨_, hlt⟩ := ha1 (by omega)
          exact ⟨(hb.cell (p := ⟨b1, off1 + j * 4, none⟩) hlt).trans (x1 j hj).1, (hb.cell (p := ⟨b1, off1 + j * 4 + 1, none⟩) hlt).trans (x1 j hj).2.1, (hb.cell (p := ⟨b1, off1 + j * 4 + 2, none⟩) hlt).trans (x1 j hj).2.2.1, (hb.cell (p := ⟨b1, off1 + j * 4 + 3, none⟩) hlt).trans (x1 j hj).2.2.2⟩))
      (fun w1 hb => by
        rw [y2, uptoN_length]
        exact lasts_stops Fence.wide 4 trivial rfl (by omega) B2 w.heap.size b2 off2 t.done.length c2 a2 _ _ _ f2 (by omega) ha2 w1 (Nat.lt_of_lt_of_le L2 hb.size) hb.size ((hb.cell (p := ⟨B2, 0, none⟩) L2).trans q2) (fun j hj => by
          obtain ⟨_, hlt⟩ := ha2 (by omega)
          exact ⟨(hb.cell (p := ⟨b2, off2 + j * 4, none⟩) hlt).trans (x2 j hj).1, (hb.cell (p := ⟨b2, off2 + j * 4 + 1, none⟩) hlt).trans (x2 j hj).2.1, (hb.cell (p := ⟨b2, off2 + j * 4 + 2, none⟩) hlt).trans (x2 j hj).2.2.1, (hb.cell (p := ⟨b2, off2 + j * 4 + 3, none⟩) hlt).trans (x2 j hj).2.2.2⟩))))
  refine Calls.mono this ?_
  rintro e w' ⟨he, hbl⟩
  refine ret_of hs he hbl ?_
  congr 1
  rw [show List.range 3 = [0, 1, 2] from rfl]
  simp only [List.all_cons, List.all_nil, Bool.and_true, y0, y1, y2]
  unfold behindB
  rw [hf0, hf1, hf2, upto_map, upto_map, upto_map]
end Go.Wm

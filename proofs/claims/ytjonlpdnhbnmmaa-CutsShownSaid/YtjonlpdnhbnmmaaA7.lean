/-
  Up to where all is decided, the program's, as a contract. Conditions: that what is handed in reads as data.
-/
import Derived.Test.YtjonlpdnhbnmmaaA6
import Derived.Test.YtjonlpdnhbnmmaaR5
set_option linter.all false
namespace Go.Wm
open Go.RowKit Go.Proofs

theorem cell_of {k : PH} {w : World} {b off : Nat} {vs : List Value} (h : Cells k b off vs) (hs : Sub k w) {j : Nat} {u : Value} (hj : vs[j]? = some u) : w.cell? ⟨b, off + j, none⟩ = some u := by
  obtain ⟨c, et, fr, h1, h2⟩ := h
  have := hs b _ h1
  have h3 := h2 j u hj
  simp [World.cell?, this, h3]
theorem ret_of {k : PH} {w w' : World} {v : Value} {e : Ending} {φ : PH → Value → Prop} (hs : Sub k w) (he : e = .returned v) (hb : Below w.heap.size w w') (hφ : φ k v) : Ret k w φ e w' :=
  ⟨v, k, he, hb, fun b _ => rfl, fun b o h => by
    have hw := hs b o h
    rw [hb.block b (Array.getElem?_eq_some_iff.1 hw).1]
    exact hw, hφ⟩
theorem upto_map {α : Type} (l : List α) (f : α → Int) : uptoN (fun j => ((l[j]?).map f).getD 0) l.length = l.map f := by
  apply List.ext_getElem
  · simp [uptoN]
  · intro i h1 h2
    simp [uptoN] at h1
    simp [uptoN, h1]
theorem mins_map {α : Type} (f : α → Int) : ∀ (l : List α) (h : Int), minsL h (l.map f) = foldMin (fun _ => true) f h l
  | [], h => rfl
  | x :: l, h => by
    show minsL (if f x < h then f x else h) (l.map f) = foldMin _ f (if true = true then minI h (f x) else h) l
    rw [mins_map f l]
    rfl

theorem txStable_ct {k : PH} {t : Tx} {a0 : Option Addr} {c0 : Nat} {a1 : Option Addr} {c1 : Nat} {a2 : Option Addr} {c2 : Nat} (high : Int) (ht : TxAt k t a0 c0 a1 c1 a2 c2) (hb : t.openV.length ≤ 1000000) :
    CT Try.prog 32 #[.agg (t.cs a0 c0 a1 c1 a2 c2).toArray, .int .i64 high] k (fun _ v => v = .int .i64 (stabP t high)) := by
  intro w k1 hle hs
  have ho := ht.o.le hle
  have hbase : ∃ b off, 0 < t.openV.length → a0 = some ⟨b, off, none⟩ ∧ b < w.heap.size := by
    by_cases h0 : 0 < t.openV.length
    · obtain ⟨b, off, cx, rfl, ⟨rfl, _⟩, hc⟩ := ho.el 0 t.openV[0] (List.getElem?_eq_getElem h0)
      obtain ⟨c, et, fr, h1, _⟩ := hc
      exact ⟨b, off, fun _ => ⟨rfl, (Array.getElem?_eq_some_iff.1 (hs b _ h1)).1⟩⟩
    · exact ⟨0, 0, fun h => absurd h h0⟩
  obtain ⟨b, off, ha⟩ := hbase
  have := (callsIn_wide (n := 5)).1 (stable_in Fence.wide 5 trivial trivial trivial rfl (by omega) b off t.openV.length c0 a0 (.slice a1 t.gone.length c1) (.slice a2 t.done.length c2) (fun j => ((t.openV[j]?).map (·.pid)).getD 0) (fun j => ((t.openV[j]?).map (·.first)).getD 0) high w (by omega) ha (fun j hj => by
    obtain ⟨rfl, _⟩ := ha (by omega)
    obtain ⟨b', off', cx, e, ⟨rfl, _⟩, hc⟩ := ho.el j t.openV[j] (List.getElem?_eq_getElem hj)
    cases e
    simp only [List.getElem?_eq_getElem hj, Option.map_some, Option.getD_some]
    exact ⟨cell_of (j := 0) hc hs rfl, cell_of (j := 1) hc hs rfl⟩))
  refine Calls.mono this ?_
  rintro e w' ⟨he, hbl⟩
  refine ret_of hs he hbl ?_
  rw [upto_map, mins_map]
  rfl
end Go.Wm

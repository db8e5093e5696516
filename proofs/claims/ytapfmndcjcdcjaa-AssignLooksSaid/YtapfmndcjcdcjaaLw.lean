/-
  How the arguments of this seat's laws read, and a law's row out of its walk. Conditions: none.
-/
import Derived.Test.YtapfmndcjcdcjaaDat
import Derived.Test.YtapfmndcjcdcjaaRead
import Derived.Test.YtapfmndcjcdcjaaRows
set_option linter.all false
namespace Go.Wm
open Go.RowKit Go.Proofs Go.ChangeShapes Go.WideShapes

theorem list3 {α : Type} {l : List α} (h : l.length = 3) : ∃ a b c, l = [a, b, c] := by
  match l, h with
  | [a, b, c], _ => exact ⟨a, b, c, rfl⟩
theorem list6 {α : Type} {l : List α} (h : l.length = 6) : ∃ a b c d e f, l = [a, b, c, d, e, f] := by
  match l, h with
  | [a, b, c, d, e, f], _ => exact ⟨a, b, c, d, e, f, rfl⟩
instance rdInt : Rd Try.prog 3 tInt := rd_int Try.underlying3 (by kernel_rfl)
instance rdStr : Rd Try.prog 9 tStr := rd_str Try.underlying9 (by kernel_rfl)
instance rdTp : Rd Try.prog 37 tTp where
  one := by kernel_rfl
  rd := fun hr => by
    obtain ⟨m, hl, hel⟩ := struct_cells (fts := [9, 3, 3]) (by kernel_rfl) (by kernel_rfl) (by kernel_rfl) hr
    obtain ⟨c0, c1, c2, rfl⟩ := list3 hl
    · skip
      obtain ⟨_, h0⟩ := hel 0 9 c0 rfl rfl
      obtain ⟨_, h1⟩ := hel 1 3 c1 rfl rfl
      obtain ⟨_, h2⟩ := hel 2 3 c2 rfl rfl
      obtain ⟨s, e0, _⟩ := DataW.trod_string Try.underlying9 h0
      obtain ⟨a, e1, _⟩ := DataW.trod_int Try.underlying3 h1
      obtain ⟨b, e2, _⟩ := DataW.trod_int Try.underlying3 h2
      simp at e0 e1 e2
      subst e0 e1 e2
      exact ⟨⟨s, a, b⟩, rfl⟩
instance rdSubs : Rd Try.prog 32 (tSl tStr) := rd_slice Try.underlying32 (by kernel_rfl) (by decide)
instance rdTps : Rd Try.prog 23 (tSl tTp) := rd_slice Try.underlying23 (by kernel_rfl) (by decide)
instance rdMem : Rd Try.prog 34 tMem where
  one := by kernel_rfl
  rd := fun hr => by
    obtain ⟨m, hl, hel⟩ := struct_cells (fts := [9, 9, 32, 23, 4, 3]) (by kernel_rfl) (by kernel_rfl) (by kernel_rfl) hr
    obtain ⟨c0, c1, c2, c3, c4, c5, rfl⟩ := list6 hl
    · skip
      obtain ⟨_, h0⟩ := hel 0 9 c0 rfl rfl
      obtain ⟨_, h1⟩ := hel 1 9 c1 rfl rfl
      obtain ⟨_, h2⟩ := hel 2 32 c2 rfl rfl
      obtain ⟨_, h3⟩ := hel 3 23 c3 rfl rfl
      obtain ⟨_, h4⟩ := hel 4 4 c4 rfl rfl
      obtain ⟨_, h5⟩ := hel 5 3 c5 rfl rfl
      obtain ⟨s, e0, _, hs⟩ := DataW.trod_string Try.underlying9 h0
      obtain ⟨s1, e1, _⟩ := DataW.trod_string Try.underlying9 h1
      obtain ⟨subs, sa, sc, e2, hsub⟩ := rdSubs.rd h2
      obtain ⟨own, oa, oc, e3, hown⟩ := rdTps.rd h3
      obtain ⟨j, e4, _⟩ := DataW.trod_bool Try.underlying4 h4
      obtain ⟨b, e5, _⟩ := DataW.trod_int Try.underlying3 h5
      simp at e0 e1 e2 e3 e4 e5
      subst e0 e1 e2 e3 e4 e5
      exact ⟨⟨s, s1, subs, own, j, b⟩, sa, sc, oa, oc, rfl, hsub, hown, hs⟩
instance rdMems : Rd Try.prog 22 (tSl tMem) := rd_slice Try.underlying22 (by kernel_rfl) (by decide)
instance rdShare : Rd Try.prog 26 (tSl (tSl tTp)) := rd_slice Try.underlying26 (by kernel_rfl) (by decide)

theorem own : ownKnob Try.prog.godebug = none := by kernel_rfl
theorem laidOut : laidOutB Try.prog = true := by kernel_rfl

/-- One argument that is a slice. -/
theorem arg_sl {t e : TypeId} {α : Type} {T : Ty α} [h : Rd Try.prog t (tSl T)] (ht : Try.prog.underlying t = some (.slice e)) {H : Type} {enc : TypeId × Value → H} {W : World} {base : Nat} {v : Value} {d : DataW H} {p : List MemPlace} (hv : Value.okWide Try.prog W .any base t v) (hr : DataW.Trod enc Try.prog W 0 (fun _ => true) true t v d p) :
    ∃ a c xs, v = .slice a xs.length c ∧ Sl T (heapOf W) a c xs := by
  obtain ⟨a0, len, cap, rfl⟩ := okWide_slice ht hv
  obtain ⟨n, hn⟩ := hr
  obtain ⟨xs, a, c, hcs, hsl⟩ := h.rd hn
  simp [Value.cells] at hcs
  exact ⟨a, c, xs, by rw [hcs.1, hcs.2.1, hcs.2.2], hsl⟩

/-- The walk of a law: it returns true, and turns nothing that was there. -/
theorem walk_of_ct {f : FuncId} {args : Array Value} {W : World} (h : CT Try.prog f args (heapOf W) (fun _ v => v = .bool true)) : Calls Try.prog f args W fun e W' => e = .returned (.bool true) ∧ Below W.heap.size W W' :=
  (h W (heapOf W) (Le.refl _) (sub_heapOf W)).mono fun e W' ⟨v, k', h1, h2, _, _, h5⟩ => ⟨by rw [h1, h5], h2⟩
end Go.Wm

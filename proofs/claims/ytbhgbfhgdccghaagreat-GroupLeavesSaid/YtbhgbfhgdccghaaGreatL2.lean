/-
  The walk of the law on who stays by its Static. Conditions: that what is handed in reads as data.
-/
import Derived.Test.YtbhgbfhgdccghaaGreatP10
import Derived.Test.YtbhgbfhgdccghaaGreatK1
import Derived.Test.YtbhgbfhgdccghaaGreatK7
import Derived.Test.YtbhgbfhgdccghaaGreatP1
import Derived.Test.YtbhgbfhgdccghaaGreatCoB
import Derived.Test.YtbhgbfhgdccghaaGreatP3
import Derived.Test.YtbhgbfhgdccghaaGreatP7
import Derived.Test.YtbhgbfhgdccghaaGreatS9
import Derived.Test.YtbhgbfhgdccghaaGreatS3
import Derived.Test.YtbhgbfhgdccghaaGreatN12
import Derived.Test.YtbhgbfhgdccghaaGreatL1
import Derived.Test.YtbhgbfhgdccghaaGreatR1
import Derived.Test.YtbhgbfhgdccghaaGreatK14
set_option linter.all false
namespace Go.Wm
open Go.RowKit Go.Proofs
attribute [local irreducible] RG CG EG WA Loc Det Alc CT Exit.then Exit.inBlock Code.wp bodyPost
def anyW (l : List Member) (tp : Tp) : Bool := l.any fun m => decide (tp.topic ∈ m.subs)
/-- A partition stands rightly with member i. -/
def goodTp (l : List Member) (tps : List Tp) (own : List (List Tp)) (i : Nat) (tp : Tp) : Bool :=
  decide (tp.topic ∈ ((l[i]?).map (·.subs)).getD []) && (decide (tp ∈ tps) && (List.range l.length).all fun k => !(decide (tp.topic ∈ ((l[k]?).map (·.subs)).getD []) && decide (((own.getD i []).length : Int) - ((own.getD k []).length : Int) > 1)))
def evenA (l : List Member) (tps : List Tp) (own : List (List Tp)) : Bool :=
  okM l && (decide tps.Nodup && (decide (own.length = l.length) && (decide own.flatten.Nodup && (((List.range own.length).all fun i => (own.getD i []).all (goodTp l tps own i)) && decide ((lenTo own own.length : Int) - (tps.countP (anyW l) : Nat) = 0)))))
end Go.Wm
-- cut by zcut
namespace Go.Wm
open Go.RowKit Go.Proofs
section
variable {l : List Member} {tps : List Tp}
/-- A member's number, or nobody. -/
def Val (n : Nat) (x : Int) : Prop := x = -1 ∨ (0 ≤ x ∧ x < n)
def Good (n : Nat) (w : List Int) : Prop := ∀ x ∈ w, Val n x
theorem WInv.good {l : List Member} {tps : List Tp} {w : List Int} (h : WInv l tps w) : Good l.length w := by
  intro x hx
  obtain ⟨p, hp⟩ := List.getElem?_of_mem hx
  have hpl : p < w.length := (List.getElem?_eq_some_iff.1 hp).1
  have hpt : p < tps.length := by rw [← h.len]; exact hpl
  rcases h.at' p x tps[p] hp (List.getElem?_eq_getElem hpt) with h1 | ⟨i, h1, hi, _⟩
  · exact .inl h1
  · exact .inr ⟨by omega, by omega⟩
def idL (l : List Member) (i : Nat) : List UInt8 := ((l[i]?).map (·.id.data.toList)).getD []
/-- Fewer, or as many and the lesser name. -/
def keyLt (l : List Member) (w : List Int) (i j : Nat) : Prop := w.count (i : Int) < w.count (j : Int) ∨ (w.count (i : Int) = w.count (j : Int) ∧ idL l i < idL l j)
/-- What nobody has, nobody wants. -/
def Full (l : List Member) (tps : List Tp) (w : List Int) (n : Nat) : Prop := ∀ p tp, p < n → w[p]? = some (-1) → tps[p]? = some tp → ∀ x, ¬ Wants l tp x
end
end Go.Wm
namespace Go.Wm
open Go.RowKit Go.Proofs
attribute [local irreducible] RG CG EG WA Loc Det Alc CT Exit.then Exit.inBlock Code.wp bodyPost
/-- The best of the first i. -/
def bestM (l : List Member) (tp : Tp) (many : List Int) (i : Nat) : Int := match whoL l tp i with
  | [] => -1
  | w => minBy (cmpM l many) w
end Go.Wm
namespace Go.Wm
open Go.RowKit Go.Proofs
attribute [local irreducible] RG CG EG WA Loc Det Alc CT Exit.then Exit.inBlock Code.wp bodyPost
attribute [local irreducible] WF LocG Exit.jump

/-- The block of what each partition's owner is. -/
def GotAt (h0 k : PH) (bg : Nat) (w : List Int) : Prop := Le h0 k ∧ h0 bg = none ∧ k bg = some (.cells (w.map (Value.int .i64)).toArray 3 (0, 0))
theorem GotAt.up {h0 k k' : PH} {bg : Nat} {w : List Int} (h : GotAt h0 k bg w) (hl : Le k k') : GotAt h0 k' bg w := ⟨h.1.trans hl, h.2.1, hl _ _ h.2.2⟩
theorem GotAt.set {h0 k k' : PH} {bg : Nat} {w : List Int} (h : GotAt h0 k bg w) {p : Nat} {x : Int} (ht : Turn1 k k' bg) (hk : k' bg = some (.cells ((w.map (Value.int .i64)).toArray.setIfInBounds p (.int .i64 x)) 3 (0, 0))) : GotAt h0 k' bg (w.set p x) :=
  ⟨ht h0 h.1 h.2.1, h.2.1, by rw [← set_ints]; exact hk⟩
theorem WInv.i64 {l : List Member} {tps : List Tp} {w : List Int} (h : WInv l tps w) (hl : l.length ≤ 1000000) : ∀ x ∈ w, I64 x := by
  intro x hx
  obtain ⟨p, hp⟩ := List.getElem?_of_mem hx
  have hpl : p < w.length := (List.getElem?_eq_some_iff.1 hp).1
  have hpt : p < tps.length := by rw [← h.len]; exact hpl
  rcases h.at' p x tps[p] hp (List.getElem?_eq_getElem hpt) with h1 | ⟨i, h1, hi, _⟩
  · rw [h1]; unfold I64; omega
  · rw [h1]; unfold I64; omega
end Go.Wm
namespace Go.Wm
open Go.RowKit Go.Proofs
attribute [local irreducible] RG CG EG WA Loc Det Alc CT Exit.then Exit.inBlock Code.wp bodyPost
def othB (l : List Member) (i : Nat) (tp : Tp) : Bool := (List.range l.length).any fun j => !decide (j = i) && decide (tp ∈ ((l[j]?).map (·.own)).getD [])
end Go.Wm
namespace Go.Wm
open Go.RowKit Go.Proofs
attribute [local irreducible] RG CG EG WA Loc Det Alc CT Exit.then Exit.inBlock Code.wp bodyPost
theorem RowsOf.less {α : Type} {f : α → List Value} {N et sz bet bo : Nat} {h h' k : PH} {vs : List Value} {rs : List (List α)} (H : RowsOf f N et sz bet bo h' k vs rs) (hl : Le h h') (hb : h bo = none) : RowsOf f N et sz bet bo h k vs rs :=
  ⟨H.len, hl.trans H.le, hb, H.N_le, H.at', fun i v r hv hr => ⟨(H.row i v r hv hr).1, (fun g hg => by
    have := (H.row i v r hv hr).2.1 g hg
    cases e : h g with
    | none => rfl
    | some ob =>
      rw [hl _ _ e] at this
      cases this), (H.row i v r hv hr).2.2⟩, H.apart⟩
end Go.Wm
namespace Go.Wm
open Go.RowKit Go.Proofs
theorem Und.none {h kq k : PH} {b : Nat} {ob : Obj} {φ : PH → Value → Prop} {v : Value} (hu : Und h kq φ k v) (hb : h b = none) (hk : kq b = some ob) : ∃ k2, Le h k2 ∧ k2 b = none ∧ Le k2 k ∧ φ k2 v := by
  obtain ⟨k2, h1, h2, h3, h4⟩ := hu
  exact ⟨k2, h1, (h2 _ _ hk).trans hb, h3, h4⟩
attribute [local irreducible] RG CG EG WA Loc Det Alc CT Exit.then Exit.inBlock Code.wp bodyPost
end Go.Wm
namespace Go.Wm
open Go.RowKit Go.Proofs
theorem bytes28 : Tryz.prog.bytesOf 44 = 96 := by kernel_rfl
theorem bytes9 : Tryz.prog.bytesOf 9 = 16 := by kernel_rfl
theorem bytes63 : Tryz.prog.bytesOf 53 = 32 := by kernel_rfl
theorem reach47 : reachBytes ≤ 140737488355328 := by decide
theorem Member.smallS {m : Member} (h : m.small) : m.subs.length * 16 ≤ 140737488355328 ∧ m.own.length * 32 ≤ 140737488355328 := by
  obtain ⟨_, _, ⟨h1, _⟩, ⟨h2, _⟩, _⟩ := h
  rw [bytes9] at h1
  rw [bytes63] at h2
  exact ⟨Nat.le_trans h1 reach47, Nat.le_trans h2 reach47⟩
theorem Group.smallG {g : Group} (h : g.small) : SmallG g := by
  obtain ⟨_, _, _, h1, h2⟩ := h
  rw [bytes28] at h1
  exact ⟨Nat.le_trans h1 reach47, fun m hm => Member.smallS (h2 m hm)⟩
attribute [local irreducible] RG CG EG WA Loc Det Alc CT Exit.then Exit.inBlock Code.wp bodyPost
end Go.Wm
-- cut by zcut

/-
  What the target is, in plain Lean: whose each partition is at first, who gets what nobody has, and the moves. Conditions: none.
-/
import Derived.Test.YtapfmndcjcdcjaaP1
set_option linter.all false
namespace Go.Wm
open Go.RowKit Go.Proofs

/-- Whose each is already. -/
def wInit (l : List Mem) (tps : List Tp) : List Int := tps.map fun tp => idxF l fun m => decide (tp ∈ m.own) && decide (tp.topic ∈ m.subs)
def leastW (l : List Mem) (tp : Tp) (w : List Int) : Int := leastM l tp (cnts l.length w)
/-- What nobody has is given away, of the first p. -/
def fillW (l : List Mem) (tps : List Tp) (w : List Int) : Nat → List Int
  | 0 => w
  | p + 1 => match (fillW l tps w p)[p]?, tps[p]? with
    | some x, some tp => if x < 0 then (fillW l tps w p).set p (leastW l tp (fillW l tps w p)) else fillW l tps w p
    | _, _ => fillW l tps w p
def hotW (l : List Mem) (tps : List Tp) (w : List Int) (p : Nat) : Bool := match w[p]?, tps[p]? with
  | some x, some tp => decide (0 ≤ x) && decide ((w.count x : Int) - (w.count (leastW l tp w) : Int) ≥ 2)
  | _, _ => false
/-- The first that has to move, moves. -/
def stepM (l : List Mem) (tps : List Tp) (w : List Int) : Option (List Int) := match (List.range tps.length).find? (hotW l tps w) with
  | some p => match tps[p]? with
    | some tp => some (w.set p (leastW l tp w))
    | none => none
  | none => none
inductive Moved (l : List Mem) (tps : List Tp) : List Int → List Int → Prop
  | refl (w : List Int) : Moved l tps w w
  | step {w w' w'' : List Int} : Moved l tps w w' → stepM l tps w' = some w'' → Moved l tps w w''
/-- What each has. -/
def outM (n : Nat) (tps : List Tp) (w : List Int) : List (List Tp) := (List.range n).map fun m : Nat => ((tps.zip w).filter fun x => decide (x.2 = (m : Int))).map (·.1)
theorem fillW_len (l : List Mem) (tps : List Tp) (w : List Int) : ∀ p, (fillW l tps w p).length = w.length
  | 0 => rfl
  | p + 1 => by
    unfold fillW
    split
    · split
      · rw [List.length_set]; exact fillW_len l tps w p
      · exact fillW_len l tps w p
    · exact fillW_len l tps w p
end Go.Wm

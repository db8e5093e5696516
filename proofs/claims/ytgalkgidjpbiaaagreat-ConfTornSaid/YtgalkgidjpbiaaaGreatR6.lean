/-
  What somebody may, the document's. Conditions: that what is handed in reads as data.
-/
import Derived.Test.YtgalkgidjpbiaaaGreatMn2
import Derived.Test.YtgalkgidjpbiaaaGreatD9
import Derived.Test.YtgalkgidjpbiaaaGreatArr3
import Derived.Test.YtgalkgidjpbiaaaGreatC2
set_option linter.all false
namespace Go.Wm
open Go.RowKit Go.Proofs
theorem put_len {α : Type} (ord : α → α → Int) (l : List α) (x : α) (there : Bool) : (putInL ord l x there).length ≤ l.length + 1 := by
  unfold putInL
  split <;> split <;> simp <;> omega
/-- At most n of each. -/
def Conf.upto (x : Conf) (n : Nat) : Prop := x.topics.length ≤ n ∧ x.rules.length ≤ n ∧ x.rates.length ≤ n ∧ x.ways.length ≤ n
theorem act_upto {x y : Conf} {s : Step} {n : Nat} (h : x.upto n) (ha : actC x s = .ok y) : y.upto (n + 1) := by
  obtain ⟨h1, h2, h3, h4⟩ := h
  unfold actC at ha
  unfold Conf.upto
  repeat' split at ha
  all_goals first | cases ha | skip
  all_goals simp only [List.length_map]
  · exact ⟨Nat.le_trans (put_len _ _ _ _) (by omega), by omega, by omega, by omega⟩
  · exact ⟨Nat.le_trans (List.length_filter_le _ _) (by omega), Nat.le_trans (List.length_filter_le _ _) (by omega), by omega, Nat.le_trans (List.length_filter_le _ _) (by omega)⟩
  · exact ⟨by omega, by omega, by omega, by omega⟩
  · exact ⟨by omega, by omega, by omega, by omega⟩
  · exact ⟨by omega, Nat.le_trans (put_len _ _ _ _) (by omega), by omega, by omega⟩
  · exact ⟨by omega, by omega, Nat.le_trans (put_len _ _ _ _) (by omega), by omega⟩
  · exact ⟨by omega, by omega, by omega, Nat.le_trans (put_len _ _ _ _) (by omega)⟩
theorem noConf_upto (n : Nat) : noConf.upto n := ⟨Nat.zero_le _, Nat.zero_le _, Nat.zero_le _, Nat.zero_le _⟩
theorem do_upto {x : Conf} {s : Step} {n : Nat} (h : x.upto n) : (doC x s).1.upto (n + 1) := by
  unfold doC
  split
  · exact noConf_upto _
  · split
    · exact noConf_upto _
    · cases ha : actC { x with ver := x.ver + 1 } s with
      | error e => exact noConf_upto _
      | ok y => exact act_upto (x := { x with ver := x.ver + 1 }) h ha
end Go.Wm
namespace Go.Wm
open Go.RowKit Go.Proofs
def dropS (name : ByteArray) : Step := ⟨2, name, ⟨#[]⟩, 0, 0, 0⟩
end Go.Wm
namespace Go.Wm
open Go.RowKit Go.Proofs
attribute [local irreducible] RG CG EG WA Loc Det Alc CT Exit.then Exit.inBlock Code.wp bodyPost
def noRate : Rate := ⟨⟨#[]⟩, 0, 0⟩
def rateF (l : List Rate) (s : ByteArray) : Option Rate := l.find? fun r => decide (r.who = s)
def rateQ (x : Conf) (who : ByteArray) : Rate × Bool := if confP x = true then (match rateF x.rates who with | some r => (r, true) | none => (match rateF x.rates starS with | some r => (r, true) | none => (noRate, false))) else (noRate, false)
def nmR (who : ByteArray) (i : Nat) : ByteArray := if i = 0 then who else starS
def RateV (q : Rate × Bool) (v : Value) : Prop := v = .tuple #[.agg q.1.vs.toArray, .bool q.2]
end Go.Wm
-- cut by zcut
namespace Go.Wm
open Go.RowKit Go.Proofs
def bitsN : List Nat := [1, 2, 4]
def eachF (f : Nat → Bool) (w : Nat) (l : List Nat) : Bool := l.all fun b => !decide (w / b % 2 = 1) || f b
end Go.Wm
namespace Go.Wm
open Go.RowKit Go.Proofs
attribute [local irreducible] RG CG EG WA Loc Det Alc CT Exit.then Exit.inBlock Code.wp bodyPost
def bitsV (g : Nat) : List Value := [.bool (g.testBit 0), .bool (g.testBit 1), .bool (g.testBit 2)]
/-- Halfway: below j what is behind a rule, above what was. -/
def bitsH (g h j : Nat) : List Value := [.bool ((if 0 < j then h else g).testBit 0), .bool ((if 1 < j then h else g).testBit 1), .bool ((if 2 < j then h else g).testBit 2)]
end Go.Wm
-- cut by zcut

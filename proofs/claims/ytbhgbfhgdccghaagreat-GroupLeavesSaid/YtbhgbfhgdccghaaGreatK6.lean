/-
  Joining, in plain Lean: as the program goes about it. Conditions: none.
-/
import Derived.Test.YtbhgbfhgdccghaaGreatN8
set_option linter.all false
namespace Go.Wm
open Go.RowKit Go.Proofs
def finW (g : Group) (x : Member) (begins : Bool) (e : Int) : Group × Int :=
  toldG { (if begins = true then roundG g else g) with l := insM x (if begins = true then roundG g else g).l } (if begins = true then wantE e (decide (g.gen < 1048576)) 2 else e)
theorem finW_ne {g : Group} {x : Member} {b : Bool} {e : Int} (h : e ≠ 0) : finW g x b e = (noG, e) := by
  unfold finW
  rw [wantE_ne h]
  cases b <;> exact toldG_ne h
theorem finW_fin (g : Group) (l : List Member) (x : Member) (b : Bool) : finW { g with l := l } x b 0 = finJ g l x b := by
  unfold finW finJ
  cases b
  · rfl
  · by_cases h : g.gen < 1048576
    · simp [h, wantE, toldG, roundG]
    · simp [h, wantE, toldG, roundG]
def joined (m : Member) (now : Int) : Member := { m with beat := now, joined := true }
theorem way_a {g : Group} {m : Member} {now : Int} {i : Nat} {was : Member} (hc : ChkG g) (hm : memOk (joined m now) = true) (hf : FindAt m.id g.l i) (hw : g.l[i]? = some was) (hid : was.id = m.id) :
    finW { g with l := delM i g.l } { joined m now with own := metOf was.own m.own } (decide (g.state = 2)) (wantE 0 (decide (was.static = m.static)) 1) = joinG g m now := by
  have hi := hf.pos hc.right
  have hm' : memOk { m with beat := now, joined := true } = true := hm
  have hh : hasId m.id g.l = true := hasId_true.2 ⟨was, List.mem_of_getElem? hw, hid⟩
  unfold joinG
  rw [if_neg (by rw [chk_of hc]; simp), if_neg (by rw [hm']; simp), if_pos hh, ← hi, hw]
  dsimp only
  by_cases h : was.static = m.static
  · rw [if_neg (by simp [h]), show decide (was.static = m.static) = true by simp [h], wantE_t, finW_fin]
    rfl
  · rw [if_pos h, show decide (was.static = m.static) = false by simp [h], wantE_f, finW_ne (by decide)]
theorem way_b {g : Group} {m : Member} {now : Int} {s : Nat} {was : Member} (hc : ChkG g) (hm : memOk (joined m now) = true) (hh : hasId m.id g.l = false) (hs : idxF g.l (sameStat m.static) = (s : Int)) (hw : g.l[s]? = some was) :
    finW { g with l := delM s g.l } { joined m now with own := was.own } (decide (g.state = 2) && !decide (was.subs = m.subs)) 0 = joinG g m now := by
  have hm' : memOk { m with beat := now, joined := true } = true := hm
  have hs' : g.l.findIdx? (sameStat m.static) = some s := by
    unfold idxF at hs
    split at hs
    · rename_i j hj; rw [hj]; congr 1; omega
    · omega
  unfold joinG
  rw [if_neg (by rw [chk_of hc]; simp), if_neg (by rw [hm']; simp), if_neg (by rw [hh]; simp), hs']
  dsimp only
  rw [hw]
  exact finW_fin _ _ _ _
theorem way_c {g : Group} {m : Member} {now : Int} (hc : ChkG g) (hm : memOk (joined m now) = true) (hh : hasId m.id g.l = false) (hs : idxF g.l (sameStat m.static) < 0) :
    finW g { joined m now with own := [] } (decide (g.state ≠ 1)) (wantE 0 (decide (g.l.length < 64)) 2) = joinG g m now := by
  have hm' : memOk { m with beat := now, joined := true } = true := hm
  have hs' : g.l.findIdx? (sameStat m.static) = none := by
    unfold idxF at hs
    split at hs
    · omega
    · assumption
  unfold joinG
  rw [if_neg (by rw [chk_of hc]; simp), if_neg (by rw [hm']; simp), if_neg (by rw [hh]; simp), hs']
  dsimp only
  by_cases h : g.l.length < 64
  · rw [if_neg (by omega), show decide (g.l.length < 64) = true by simp [h], wantE_t]
    exact finW_fin g g.l _ _
  · rw [if_pos (by omega), show decide (g.l.length < 64) = false by simp [h], wantE_f, finW_ne (by decide)]
end Go.Wm

/-
  Parts of slices: 'l[:i]', 'l[i:]', 'l[i:j]' of what reads as a list. Conditions: the bounds.
-/
import Derived.Test.YtapfmndcjcdcjaaRep
set_option linter.all false
namespace Go.Wm
open Go.RowKit

def shiftA (c i sz : Nat) (a : Option Addr) : Option Addr := a.map fun ad => if c = i then ad else ad.add (i * sz)
section
variable {P : Program} {n : Nat} {ops : Array Oper} {o : Oper} {e : Env} {k : PH}
theorem d_part {t et : TypeId} {x : Operand} {lo hi : Option Operand} {l h : Option Nat} {a : Option Addr} {m c sz bs : Nat} {z : Value} [ht : TyU P t (.slice et)] [hi' : TyI P et sz bs z] (hop : o.op = .slice t x lo hi none)
    (hx : opv e x = some (.slice a m c)) (hlo : opi e lo (some l)) (hhi : opi e hi (some h)) (h1 : ob 0 l ≤ ob m h) (h2 : ob m h ≤ c) (h3 : m ≤ c) (hn : a = none → c = 0) :
    Det P e k o (.slice (shiftA c (ob 0 l) sz a) (ob m h - ob 0 l) (c - ob 0 l)) := by
  intro ev w hev _
  rw [hop] at hev
  obtain ⟨inf, hi1, hi2, _⟩ := hi'.eq
  have g := run_bounds (P := P) (b := true) m c w hlo hhi (fun y hy u hu => hev y (by
    rcases hy with hy | hy <;> subst hy <;> simp [Op.operands]) u hu) h1 h2 h3
  cases a with
  | none =>
    have e0 := hn rfl
    have e1 : ob 0 l = 0 := by omega
    have e2 : ob m h = 0 := by omega
    rw [e0, e1, e2] at g
    simp [execOp, hop, hev x (by simp [Op.operands]) _ hx, Instr.sliceAt, Instr.slice, run_underlying ht.eq, g, run_size hi1, hi2, e1, e2, e0, shiftA]
  | some ad =>
    simp [execOp, hop, hev x (by simp [Op.operands]) _ hx, Instr.sliceAt, Instr.slice, run_underlying ht.eq, g, run_size hi1, hi2, shiftA]
    split <;> rfl
end
section
variable {α : Type} {T : Ty α} {k : PH} {a : Option Addr} {c : Nat} {l : List α}
theorem Sl.take (h : Sl T k a c l) (i : Nat) : Sl T k a c (l.take i) :=
  ⟨by have := h.cap; rw [List.length_take]; omega, h.max, h.nil, h.spot, fun j x hx => h.el j x (by
    rw [List.getElem?_take] at hx
    split at hx
    · exact hx
    · cases hx)⟩
theorem Sl.drop (h : Sl T k a c l) {i : Nat} (hi : i ≤ l.length) : Sl T k (shiftA c i T.sz a) (c - i) (l.drop i) := by
  have hc := h.cap
  refine ⟨by rw [List.length_drop]; omega, by have := h.max; omega, fun hn => ?_, fun hpos ad hd => ?_, fun j x hx => ?_⟩
  · cases ha : a with
    | none => have := h.nil ha; omega
    | some ad => rw [ha] at hn; cases hn
  · cases ha : a with
    | none => rw [ha] at hd; cases hd
    | some ad' =>
      rw [ha] at hd
      have hs := h.spot (by omega) ad' ha
      simp only [shiftA, Option.map_some, Option.some.injEq] at hd
      rw [if_neg (by omega)] at hd
      subst hd
      obtain ⟨b, off, sp⟩ := ad'
      cases hs
      rw [addr_add]
  · rw [List.getElem?_drop] at hx
    obtain ⟨b, off, cs, ha, hrep, hcs⟩ := h.el _ x hx
    have hlt : i + j < l.length := (List.getElem?_eq_some_iff.1 hx).1
    refine ⟨b, off + i * T.sz, cs, ?_, hrep, by rw [Nat.add_mul, ← Nat.add_assoc] at hcs; exact hcs⟩
    rw [ha]
    simp only [shiftA, Option.map_some, Option.some.injEq]
    rw [if_neg (by omega), addr_add]
theorem shift_zero (h : Sl T k a c l) (sz : Nat) : shiftA c 0 sz a = a := by
  cases a with
  | none => rfl
  | some ad =>
    simp only [shiftA, Option.map_some, Option.some.injEq]
    split
    · rfl
    · rename_i hc
      have hs := h.spot (by omega) ad rfl
      obtain ⟨b, off, sp⟩ := ad
      cases hs
      rw [addr_add, Nat.zero_mul, Nat.add_zero]
variable {P : Program} {n : Nat} {ops : Array Oper} {o : Oper} {e : Env}
/-- 'l[:i]'. -/
theorem d_pre {t et : TypeId} {x y : Operand} {i bs sz : Nat} {z : Value} {kd : IntKind} [ht : TyU P t (.slice et)] [hi' : TyI P et sz bs z] (hs : Sl T k a c l) (hop : o.op = .slice t x none (some y) none)
    (hx : opv e x = some (.slice a l.length c)) (hy : opv e y = some (.int kd (i : Int))) (hi : i ≤ l.length) : Det P e k o (.slice a (l.take i).length c) := by
  have := d_part (P := P) (k := k) (sz := sz) (bs := bs) (z := z) (et := et) (l := none) (h := some i) hop hx trivial ⟨kd, hy⟩ (Nat.zero_le _) (by have := hs.cap; show i ≤ c; omega) hs.cap hs.nil
  simp only [ob, Nat.sub_zero] at this
  rw [shift_zero hs] at this
  rw [List.length_take, Nat.min_eq_left hi]
  exact this
/-- 'l[i:]'. -/
theorem d_suf {t et : TypeId} {x y : Operand} {i bs sz : Nat} {z : Value} {kd : IntKind} [ht : TyU P t (.slice et)] [hi' : TyI P et sz bs z] (hs : Sl T k a c l) (hop : o.op = .slice t x (some y) none none)
    (hx : opv e x = some (.slice a l.length c)) (hy : opv e y = some (.int kd (i : Int))) (hi : i ≤ l.length) : Det P e k o (.slice (shiftA c i sz a) (l.drop i).length (c - i)) := by
  have := d_part (P := P) (k := k) (sz := sz) (bs := bs) (z := z) (et := et) (l := some i) (h := none) hop hx ⟨kd, hy⟩ trivial (by show i ≤ l.length; exact hi) hs.cap hs.cap hs.nil
  simp only [ob] at this
  rw [List.length_drop]
  exact this
/-- 'l[i:j]'. -/
theorem d_mid {t et : TypeId} {x y y' : Operand} {i j bs sz : Nat} {z : Value} {kd kd' : IntKind} [ht : TyU P t (.slice et)] [hi' : TyI P et sz bs z] (hs : Sl T k a c l) (hop : o.op = .slice t x (some y) (some y') none)
    (hx : opv e x = some (.slice a l.length c)) (hy : opv e y = some (.int kd (i : Int))) (hy' : opv e y' = some (.int kd' (j : Int))) (hi : i ≤ j) (hj : j ≤ l.length) : Det P e k o (.slice (shiftA c i sz a) ((l.take j).drop i).length (c - i)) := by
  have := d_part (P := P) (k := k) (sz := sz) (bs := bs) (z := z) (et := et) (l := some i) (h := some j) hop hx ⟨kd, hy⟩ ⟨kd', hy'⟩ (by show i ≤ j; exact hi) (by have := hs.cap; show j ≤ c; omega) hs.cap hs.nil
  simp only [ob] at this
  rw [List.length_drop, List.length_take, Nat.min_eq_left hj]
  exact this
end
end Go.Wm

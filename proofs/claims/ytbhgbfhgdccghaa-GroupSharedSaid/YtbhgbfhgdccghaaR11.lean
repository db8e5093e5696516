/-
  The document's Join. Conditions: that what is handed in reads as data.
-/
import Derived.Test.YtbhgbfhgdccghaaL4
import Derived.Test.YtbhgbfhgdccghaaR3
import Derived.Test.YtbhgbfhgdccghaaJ3
import Derived.Test.YtbhgbfhgdccghaaN6
import Derived.Test.YtbhgbfhgdccghaaL1
import Derived.Test.YtbhgbfhgdccghaaSto2
set_option linter.all false
namespace Go.Wm
open Go.RowKit Go.Proofs
def rejoin (now : Int) (m : Member) : Member := { m with beat := now, joined := true }
/-- The members behind i of them have joined again. -/
structure RInv (g : Group) (mx : Member) (now : Int) (i : Nat) (x : Group) : Prop where
  chk : ChkG x
  gen : x.gen = g.gen + 1
  mem : ∀ y, y ∈ x.l ↔ y = mx ∨ ∃ j, ∃ hj : j < g.l.length, y = if j < i then rejoin now g.l[j] else unjoin g.l[j]
  st : x.state = 2 ↔ i = g.l.length
theorem RInv.at {g : Group} {mx : Member} {now : Int} {i : Nat} {x : Group} (h : RInv g mx now i x) {j : Nat} (hj : j < g.l.length) : hasId g.l[j].id x.l = true ∧ ∀ y ∈ x.l, y.id = g.l[j].id → y = if j < i then rejoin now g.l[j] else unjoin g.l[j] := by
  have hm : (if j < i then rejoin now g.l[j] else unjoin g.l[j]) ∈ x.l := (h.mem _).2 (.inr ⟨j, hj, rfl⟩)
  have hid : (if j < i then rejoin now g.l[j] else unjoin g.l[j]).id = g.l[j].id := by split <;> rfl
  exact ⟨hasId_true.2 ⟨_, hm, hid⟩, fun y hy he => id_uniq h.chk.right hy hm (he.trans hid.symm)⟩
end Go.Wm
namespace Go.Wm
open Go.RowKit Go.Proofs
theorem memOk_ref (m : Member) : memOk m = (isName m.id && ((decide (m.static = ⟨#[]⟩) || isName m.static) && ((decide (RightP cmpStr isName m.subs) && decide (m.subs.length ≤ 12)) && (decide (RightP ordTp tpOk m.own) && timeOk m.beat)))) := by
  unfold memOk
  cases isName m.id <;> cases decide (m.static = ⟨#[]⟩) <;> cases isName m.static <;> cases decide (RightP cmpStr isName m.subs) <;> cases decide (m.subs.length ≤ 12) <;> cases decide (RightP ordTp tpOk m.own) <;> cases timeOk m.beat <;> rfl
/-- May two members stand one behind the other? -/
def apartB (a b : Member) : Bool := decide (ordId a b < 0) && (!(!decide (a.static = ⟨#[]⟩) && decide (a.static = b.static)) && decide (∀ t ∈ a.own, t ∉ b.own))
attribute [local irreducible] RG CG EG WA Loc Det Alc CT Exit.then Exit.inBlock Code.wp bodyPost
end Go.Wm
-- cut by zcut
namespace Go.Wm
open Go.RowKit Go.Proofs
/-- What a group that is told alone is. -/
def GrpA (q : Group) (k : PH) (v : Value) : Prop := ∃ a c, v = .agg (q.cs a c).toArray ∧ Sl tMember k a c q.l
theorem GrpA.mono {q : Group} : ∀ k k' v, Le k k' → GrpA q k v → GrpA q k' v := fun k k' v hle ⟨a, c, h1, h2⟩ => ⟨a, c, h1, h2.le hle⟩
/-- A group anew: its members lie in a row of the call's own. -/
def GrpN (g : Group) (k : PH) (N : Nat) (k' : PH) (v : Value) : Prop := ∃ a c KK css, v = .agg (g.cs a c).toArray ∧ Le k KK ∧ Le KK k' ∧ Apart KK (.slice a g.l.length c) ∧ Pieces tMember KK css g.l ∧ Row N k' 38 6 (.slice a g.l.length c) g.l.length css.flatten
theorem GrpN.mono {g : Group} {k : PH} : ∀ N k1 k2 v, Le k1 k2 → GrpN g k N k1 v → GrpN g k N k2 v := fun N k1 k2 v hle ⟨a, c, KK, css, h1, h2, h3, h4, h5, h6⟩ => ⟨a, c, KK, css, h1, h2, h3.trans hle, h4, h5, h6.le hle⟩
def refRoundG (g : Group) : Group × Int := if 1048576 ≤ g.gen then (noG, 2) else (roundG g, 0)
attribute [local irreducible] RG CG EG WA Loc Det Alc CT Exit.then Exit.inBlock Code.wp bodyPost
end Go.Wm
-- cut by zcut
namespace Go.Wm
open Go.RowKit Go.Proofs
def gV (g : Group) (v : Value) : List Value := [.string g.name, .int .i64 g.gen, .int .i64 g.state, v]
attribute [local irreducible] RG CG EG WA Loc Det Alc CT Exit.then Exit.inBlock Code.wp bodyPost
end Go.Wm
-- cut by zcut
namespace Go.Wm
open Go.RowKit Go.Proofs
/-- A list but for the n-th; none is left out if there is none. -/
def delN (n : Int) (l : List Member) : List Member := match n with | .ofNat j => l.eraseIdx j | .negSucc _ => l
attribute [local irreducible] RG CG EG WA Loc Det Alc CT Exit.then Exit.inBlock Code.wp bodyPost
end Go.Wm
-- cut by zcut
namespace Go.Wm
open Go.RowKit Go.Proofs
def aboveM (x y : Member) : Bool := decide (cmpStr x.id y.id < 0)
def posW (x : Member) (l : List Member) : Nat := l.findIdx (aboveM x)
def withM (x : Member) (l : List Member) : List Member := l.take (posW x l) ++ x :: l.drop (posW x l)
/-- What is there behind i steps. -/
def curW (x : Member) (l : List Member) (i : Nat) : List Member := if posW x l < i then l.take (posW x l) ++ x :: (l.take i).drop (posW x l) else l.take i
attribute [local irreducible] RG CG EG WA Loc Det Alc CT Exit.then Exit.inBlock Code.wp bodyPost
end Go.Wm
-- cut by zcut
namespace Go.Wm
open Go.RowKit Go.Proofs
def tellW (g : Group) (n : Int) (x : Member) : Group := { g with l := withM x (delN n g.l), state := stateG (withM x (delN n g.l)) }
/-- What the document does when it is known what the member has, and who goes for it. -/
def finR (g : Group) (n : Int) (x : Member) (b : Bool) : Group × Int := if b = true then (if 1048576 ≤ g.gen then (noG, 2) else (tellW (roundG g) n x, 0)) else (tellW g n x, 0)
theorem pos_at {id : ByteArray} {l : List Member} {i : Nat} (h : RightP ordId memOk l) (hi : i < l.length) (hid : l[i].id = id) : posF (byId id) l = i := by
  obtain ⟨_, h2⟩ := right_all.1 h
  refine posF_eq (Nat.le_of_lt hi) (fun q hq hlt => ?_) (fun _ => ?_)
  · have := List.pairwise_iff_getElem.1 h2 q i hq hi hlt
    show cmpStr l[q].id id < 0
    rw [← hid]; exact this
  · show ¬ cmpStr l[i].id id < 0
    rw [hid, cmpStr_eq.2 rfl]; omega
section
variable {g : Group} {m : Member} {now : Int}
end
end Go.Wm
namespace Go.Wm
open Go.RowKit
/-- What a call has told that was made with less than is known. -/
def Und (h kq : PH) (φ : PH → Value → Prop) : PH → Value → Prop := fun k v => ∃ k2, Le h k2 ∧ (∀ b o, kq b = some o → k2 b = h b) ∧ Le k2 k ∧ φ k2 v
theorem Und.mono {h kq : PH} {φ : PH → Value → Prop} : (PV.such (Und h kq φ)).Mono := fun k k' v hle ⟨k2, h1, h2, h3, h4⟩ => ⟨k2, h1, h2, h3.trans hle, h4⟩
theorem Und.imp {h kq k : PH} {φ ψ : PH → Value → Prop} {v u : Value} (hu : Und h kq φ k v) (hi : ∀ k, φ k v → ψ k u) : Und h kq ψ k u := by
  obtain ⟨k2, h1, h2, h3, h4⟩ := hu
  exact ⟨k2, h1, h2, h3, hi _ h4⟩
theorem loci_hct {P : Program} {n : Nat} {ops : Array Oper} {o : Oper} {e : Env} {k kq h : PH} {I : PH → World → Prop} {x : Operand} {args : Array Operand} {ats : Array TypeId} {g : FuncId} {first cap : Array Value} {vs : List Value} [FnOk P g] {φ : PH → Value → Prop}
    (hg : wantedE ops e o = some true) (hop : o.op = .call { callee := .value x, args := args, argTypes := ats }) (hx : opv e x = some (.func (.func g) first cap)) (ha : opvs e args.toList = some vs) (hkq : Le kq k) (hle : Le h k) (hct : CT P g (first ++ vs.toArray ++ cap) h φ) : LocI P n ops I o e k (.such (Und h kq φ)) := by
  refine ⟨Und.mono, fun a w k1 hk hs hi _ hl => ?_⟩
  rw [if_pos (wanted_of hl hg)]
  refine ex_enter (run_call hop hx ha (evs_of hl)) ((hct w h (Le.refl _) (hs.mono (hle.trans hk))).mono ?_)
  rintro en w' ⟨v, k2, h1, h2, h3, h4, h5⟩
  have hag' : Agr w.heap.size k1 (fun b => if b < w.heap.size then k1 b else k2 b) := fun b hb => by simp [hb]
  have hsub' : Sub (fun b => if b < w.heap.size then k1 b else k2 b) w' := fun b ob hb => by
    by_cases hbl : b < w.heap.size
    · simp only [hbl, if_true] at hb
      rw [h2.block b hbl]; exact hs b ob hb
    · simp only [hbl, if_false] at hb
      exact h4 b ob hb
  refine ⟨v, h1, fun b => if b < w.heap.size then k1 b else k2 b, h2, hag', hsub', k2, h3.le (hs.mono (hle.trans hk)), fun b o hb => h3 b (hs.lt (hk _ _ (hkq _ _ hb))), fun b ob hb => ?_, h5⟩
  by_cases hbl : b < w.heap.size
  · simp only [hbl, if_true]
    have := h3 b hbl
    rw [this] at hb
    exact (hle.trans hk) b ob hb
  · simp only [hbl, if_false]; exact hb
end Go.Wm
namespace Go.Wm
open Go.RowKit Go.Proofs
theorem LocI.imp {P : Program} {n : Nat} {ops : Array Oper} {I : PH → World → Prop} {o : Oper} {e : Env} {k : PH} {φ ψ : PH → Value → Prop} (h : LocI P n ops I o e k (.such φ)) (hm : (PV.such ψ).Mono) (hi : ∀ k v, φ k v → ψ k v) : LocI P n ops I o e k (.such ψ) := by
  refine ⟨hm, fun a w k1 hk hs hI hsz hlo => ?_⟩
  have := h.2 a w k1 hk hs hI hsz hlo
  split
  · rename_i hw
    rw [if_pos hw] at this
    exact this.mono fun v w' ⟨k', g1, g2, g3, g4⟩ => ⟨k', g1, g2, g3, hi _ _ g4⟩
  · rename_i hw
    rw [if_neg hw] at this
    exact hi _ _ this
/-- Told of a heap that lacks a block. -/
def Lk (h : PH) (b : Nat) (φ : PH → Value → Prop) : PH → Value → Prop := fun k v => ∃ k2, Le h k2 ∧ k2 b = none ∧ Le k2 k ∧ φ k2 v
theorem Lk.mono {h : PH} {b : Nat} {φ : PH → Value → Prop} : (PV.such (Lk h b φ)).Mono := fun k k' v hle ⟨k2, h1, h2, h3, h4⟩ => ⟨k2, h1, h2, h3.trans hle, h4⟩
def zM : Member := ⟨⟨#[]⟩, ⟨#[]⟩, [], [], false, 0⟩
/-- A member with topics of its own, and nothing else. -/
def NewM (x : Member) (k : PH) (vs : List Value) : Prop := ∃ au cu, vs = x.cs au cu none 0 ∧ Sl tStr k au cu x.subs
def NewV (x : Member) (k : PH) (v : Value) : Prop := ∃ vs : List Value, v = .agg vs.toArray ∧ NewM x k vs
attribute [local irreducible] RG CG EG WA Loc Det Alc CT Exit.then Exit.inBlock Code.wp bodyPost
end Go.Wm
-- cut by zcut

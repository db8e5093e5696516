/-
  What is done to a group, in plain Lean. Conditions: none.
-/
import Derived.Test.YtbhgbfhgdccghaaSto2
set_option linter.all false
namespace Go.Wm
open Go.RowKit Go.Proofs
def wantE (e : Int) (b : Bool) (er : Int) : Int := if e = 0 ∧ b = false then er else e
def unjoin (m : Member) : Member := { m with joined := false }
def roundG (g : Group) : Group := { g with gen := g.gen + 1, l := g.l.map unjoin }
def noG : Group := ⟨⟨#[]⟩, 0, 0, []⟩
def toldG (g : Group) (e : Int) : Group × Int := if e ≠ 0 then (noG, e) else ({ g with state := stateG g.l }, 0)
def byId (id : ByteArray) (m : Member) : Int := cmpStr m.id id
/-- Where a member stands, or would stand; is it there? -/
def metAt (id : ByteArray) (l : List Member) (i : Nat) : Bool := decide ((l[i]?).map (byId id) = some 0)
structure FindAt (id : ByteArray) (l : List Member) (i : Nat) : Prop where
  le : i ≤ l.length
  pos : RightP ordId memOk l → i = posF (byId id) l
theorem byId_split {id : ByteArray} {l : List Member} (h : RightP ordId memOk l) : ∀ i j, (hi : i < l.length) → (hj : j < l.length) → i < j → byId id l[j] < 0 → byId id l[i] < 0 := by
  have := right_split ordL_id h ⟨id, ⟨#[]⟩, [], [], false, 0⟩
  exact this
theorem wantE_ne {e : Int} (h : e ≠ 0) (b : Bool) (er : Int) : wantE e b er = e := by unfold wantE; rw [if_neg (fun hh => h hh.1)]
theorem wantE_t (e : Int) (er : Int) : wantE e true er = e := by unfold wantE; rw [if_neg (fun hh => by cases hh.2)]
theorem wantE_f (er : Int) : wantE 0 false er = er := rfl
theorem toldG_ne {g : Group} {e : Int} (h : e ≠ 0) : toldG g e = (noG, e) := by unfold toldG; rw [if_pos h]
/-- Is somebody there? -/
def hasId (id : ByteArray) (l : List Member) : Bool := l.any fun m => decide (m.id = id)
theorem met_has {id : ByteArray} {l : List Member} (h : RightP ordId memOk l) : metAt id l (posF (byId id) l) = hasId id l := by
  have := right_met ordL_id h ⟨id, ⟨#[]⟩, [], [], false, 0⟩
  have e : metAt id l (posF (byId id) l) = metF (byId id) l := rfl
  rw [e]
  show metF (fun y => ordId y ⟨id, ⟨#[]⟩, [], [], false, 0⟩) l = _
  rw [this]
  unfold hasId
  congr 1
  funext y
  show decide (cmpStr y.id id = 0) = _
  rw [decide_eq_decide]
  exact cmpStr_eq
theorem chk_right {g : Group} (h : chkG g = 0) : RightP ordId memOk g.l := by
  unfold chkG at h
  split at h
  · cases h
  split at h
  · cases h
  rename_i h2
  exact (Decidable.not_not.1 h2).2.2.2.2
structure ChkG (g : Group) : Prop where
  few : g.l.length ≤ 64
  name : isName g.name = true
  gen0 : 0 ≤ g.gen
  gen1 : g.gen ≤ 1048576
  state : g.state = stateG g.l
  right : RightP ordId memOk g.l
  stat : (statics g.l).Nodup
  own : (owns g.l).Nodup
theorem chk_all {g : Group} (h : chkG g = 0) : ChkG g := by
  unfold chkG at h
  split at h
  · cases h
  rename_i h0
  split at h
  · cases h
  rename_i h1
  split at h
  · cases h
  rename_i h2
  have h1 := Decidable.not_not.1 h1
  have h2 := Decidable.not_not.1 h2
  exact ⟨by omega, h1.1, h1.2.1, h1.2.2.1, h1.2.2.2.1, h1.2.2.2.2, h2.1, h2.2⟩
theorem chk_of {g : Group} (h : ChkG g) : chkG g = 0 := by
  unfold chkG
  rw [if_neg (by have := h.few; omega), if_neg (fun hn => hn ⟨h.name, h.gen0, h.gen1, h.state, h.right⟩), if_neg (fun hn => hn ⟨h.stat, h.own⟩)]
def newG (n : ByteArray) : Group × Int := if isName n = true then (⟨n, 0, 0, []⟩, 0) else (noG, 1)
def fenceG (g : Group) (id : ByteArray) (gen : Int) : Int := if chkG g ≠ 0 then chkG g else if hasId id g.l = false then 230 else if gen ≠ g.gen then 231 else 0
def setBeat (now : Int) (m : Member) : Member := { m with beat := now }
def setAt (p : Nat) (f : Member → Member) (l : List Member) : List Member := match l[p]? with | some m => l.set p (f m) | none => l
theorem setAt_at {p : Nat} {f : Member → Member} {l : List Member} {m : Member} (h : l[p]? = some m) : setAt p f l = l.set p (f m) := by unfold setAt; rw [h]
def beatG (g : Group) (id : ByteArray) (gen now : Int) : Group × Int :=
  if chkG g ≠ 0 then (noG, chkG g) else if timeOk now = false then (noG, 1) else
  if hasId id g.l = false then (noG, 230) else
  if ((g.l[posF (byId id) g.l]?).map (·.joined)) ≠ some true then (noG, 232) else
  if gen ≠ g.gen then (noG, 231) else
  ({ g with l := setAt (posF (byId id) g.l) (setBeat now) g.l }, 0)
/-- A member in its place. -/
def insM (x : Member) (l : List Member) : List Member := l.take (posF (byId x.id) l) ++ x :: l.drop (posF (byId x.id) l)
def delM (i : Nat) (l : List Member) : List Member := l.take i ++ l.drop (i + 1)
/-- What is left to do when it is known what the member has, and who goes for it. -/
def finJ (g : Group) (l : List Member) (x : Member) (begins : Bool) : Group × Int :=
  if begins = true then (if g.gen < 1048576 then ({ g with gen := g.gen + 1, l := insM x (l.map unjoin), state := stateG (insM x (l.map unjoin)) }, 0) else (noG, 2))
  else ({ g with l := insM x l, state := stateG (insM x l) }, 0)
def sameStat (s : ByteArray) (m : Member) : Bool := !decide (s = ⟨#[]⟩) && decide (m.static = s)
/-- Two lists of partitions: what of the one is in the other. -/
def metOf (a b : List Tp) : List Tp := a.filter fun t => decide (t ∈ b)
def joinG (g : Group) (m : Member) (now : Int) : Group × Int :=
  if chkG g ≠ 0 then (noG, chkG g) else
  if memOk { m with beat := now, joined := true } = false then (noG, 1) else
  if hasId m.id g.l = true then
    match g.l[posF (byId m.id) g.l]? with
    | none => (noG, 0)
    | some was => if was.static ≠ m.static then (noG, 1) else finJ g (delM (posF (byId m.id) g.l) g.l) { m with beat := now, joined := true, own := metOf was.own m.own } (decide (g.state = 2))
  else match g.l.findIdx? (sameStat m.static) with
    | some s => match g.l[s]? with
      | none => (noG, 0)
      | some was => finJ g (delM s g.l) { m with beat := now, joined := true, own := was.own } (decide (g.state = 2) && !decide (was.subs = m.subs))
    | none => if 64 ≤ g.l.length then (noG, 2) else finJ g g.l { m with beat := now, joined := true, own := [] } (decide (g.state ≠ 1))
def lessG (g : Group) (l : List Member) : Group × Int :=
  if l.length < g.l.length ∧ 0 < l.length ∧ g.state = 2 then (if g.gen < 1048576 then ({ g with gen := g.gen + 1, l := l.map unjoin, state := stateG (l.map unjoin) }, 0) else (noG, 2))
  else ({ g with l := l, state := stateG l }, 0)
def leaveG (g : Group) (id : ByteArray) : Group × Int :=
  if chkG g ≠ 0 then (noG, chkG g) else if hasId id g.l = false then (noG, 230) else lessG g (g.l.filter fun m => !decide (m.id = id))
def lateM (now most : Int) (m : Member) : Bool := decide (m.beat + most < now)
def tickG (g : Group) (now most : Int) : Group × Int :=
  if chkG g ≠ 0 then (noG, chkG g) else if (timeOk now && timeOk most) = false then (noG, 1) else lessG g (g.l.filter fun m => !lateM now most m)
def setOwn (own : List Tp) (now : Int) (m : Member) : Member := { m with own := own, beat := now }
def syncE (g : Group) (id : ByteArray) (gen now : Int) (tps : List Tp) : Int :=
  if chkG g ≠ 0 then chkG g else if (timeOk now && decide (RightP ordTp tpOk tps)) = false then 1 else if hasId id g.l = false then 230 else if g.state = 1 then 232 else if gen ≠ g.gen then 231 else 0
end Go.Wm

/-
  A round, in plain Lean. Conditions: none.
-/
import Derived.Test.YtnijbmmghpbmgaaK7
import Derived.Test.YtnijbmmghpbmgaaL1
import Derived.Test.YtnijbmmghpbmgaaR1
import Derived.Test.YtnijbmmghpbmgaaN12
import Derived.Test.YtnijbmmghpbmgaaJ3
import Derived.Test.YtnijbmmghpbmgaaN7
set_option linter.all false
namespace Go.Wm
open Go.RowKit Go.Proofs
theorem id_uniq {l : List Member} (h : RightP ordId memOk l) {a b : Member} (ha : a ∈ l) (hb : b ∈ l) (he : a.id = b.id) : a = b := by
  obtain ⟨h1, h2⟩ := right_all.1 h
  obtain ⟨i, hi, rfl⟩ := List.getElem_of_mem ha
  obtain ⟨j, hj, rfl⟩ := List.getElem_of_mem hb
  have hp := List.pairwise_iff_getElem.1 h2
  rcases Nat.lt_trichotomy i j with h3 | h3 | h3
  · have := hp i j hi hj h3
    have e : ordId l[i] l[j] = 0 := cmpStr_eq.2 he
    omega
  · subst h3; rfl
  · have := hp j i hj hi h3
    have e : ordId l[j] l[i] = 0 := cmpStr_eq.2 he.symm
    omega
theorem stateG_two {l : List Member} : stateG l = 2 ↔ 0 < l.length ∧ ∀ m ∈ l, m.joined = true := by
  unfold stateG
  by_cases h0 : l.length = 0
  · simp [h0]
  · rw [if_neg h0]
    by_cases h1 : l.any (fun m => !m.joined) = true
    · rw [if_pos h1]
      refine ⟨fun h => by omega, fun h => ?_⟩
      obtain ⟨m, hm, hj⟩ := List.any_eq_true.1 h1
      rw [h.2 m hm] at hj; cases hj
    · rw [if_neg h1]
      refine ⟨fun _ => ⟨by omega, fun m hm => ?_⟩, fun _ => rfl⟩
      cases hj : m.joined
      · exact absurd (List.any_eq_true.2 ⟨m, hm, by rw [hj]; rfl⟩) h1
      · rfl
theorem hasId_idx {id : ByteArray} {l : List Member} (h : hasId id l = true) : ∃ s : Nat, idxF l (fun m => decide (m.id = id)) = (s : Int) ∧ ∃ hs : s < l.length, l[s].id = id := by
  rcases idxF_cases l (fun m => decide (m.id = id)) with ⟨_, hno⟩ | ⟨s, hs, hx, hy, _⟩
  · obtain ⟨m, hm, he⟩ := hasId_true.1 h
    have := hno m hm
    rw [he] at this
    simp at this
  · exact ⟨s, hx, hs, of_decide_eq_true hy⟩
theorem hasId_no {id : ByteArray} {l : List Member} (h : hasId id l = false) : idxF l (fun m => decide (m.id = id)) = -1 := idxF_no fun x hx => by
  have := hasId_false.1 h x hx
  simpa using this
theorem idx_has {id : ByteArray} {l : List Member} : decide (0 ≤ idxF l (fun m => decide (m.id = id))) = hasId id l := by
  cases h : hasId id l
  · rw [hasId_no h]; rfl
  · obtain ⟨s, hs, _⟩ := hasId_idx h
    rw [hs]; simp
theorem joinE_cases (g : Group) (m : Member) (now : Int) : (joinG g m now).2 = 0 ∨ (joinG g m now = (noG, 1)) ∨ (joinG g m now = (noG, 2)) := by
  have fin : ∀ l x b, (finJ g l x b).2 = 0 ∨ finJ g l x b = (noG, 1) ∨ finJ g l x b = (noG, 2) := fun l x b => by
    unfold finJ
    split
    · split
      · exact .inl rfl
      · exact .inr (.inr rfl)
    · exact .inl rfl
  have hj := join_ways g m now
  generalize joinG g m now = r at hj ⊢
  cases hj with
  | bad h he =>
    rw [he]
    rcases chk_cases g with h1 | h1 | h1
    · exact absurd h1 h
    · rw [h1]; exact .inr (.inl rfl)
    · rw [h1]; exact .inr (.inr rfl)
  | arg h h2 => exact .inr (.inl rfl)
  | back h h2 hi hid hst => exact fin _ _ _
  | stays h h2 hno hi hs hst => exact fin _ _ _
  | many h hn => exact .inr (.inr rfl)
  | new h h2 hno hs hn => exact fin _ _ _
theorem fence_yes {x : Group} (h : ChkG x) {id : ByteArray} {gen : Int} (hn : hasId id x.l = true) (hg : gen = x.gen) : fenceG x id gen = 0 := by
  unfold fenceG
  rw [if_neg (by rw [chk_of h]; simp), if_neg (by rw [hn]; simp), if_neg (by simp [hg])]
theorem fence_gen {x : Group} (h : ChkG x) {id : ByteArray} {gen : Int} (hn : hasId id x.l = true) (hg : gen ≠ x.gen) : fenceG x id gen = 231 := by
  unfold fenceG
  rw [if_neg (by rw [chk_of h]; simp), if_neg (by rw [hn]; simp), if_pos hg]
theorem memOk_time {m : Member} (h : memOk m = true) : timeOk m.beat = true := by
  unfold memOk at h
  simp only [Bool.and_eq_true] at h
  exact h.2.2.1
end Go.Wm
namespace Go.Wm
open Go.RowKit Go.Proofs
def OwnB (B : Nat) (l : List Member) : Prop := ∀ y ∈ l, y.own.length ≤ B
theorem OwnB.sub {B : Nat} {l l' : List Member} (h : OwnB B l) (hs : l'.Sublist l) : OwnB B l' := fun y hy => h y (hs.subset hy)
theorem OwnB.unjoin {B : Nat} {l : List Member} (h : OwnB B l) : OwnB B (l.map unjoin) := fun y hy => by
  obtain ⟨x, hx, rfl⟩ := List.mem_map.1 hy
  exact h x hx
theorem OwnB.ins {B : Nat} {l : List Member} {x : Member} (h : OwnB B l) (hx : x.own.length ≤ B) : OwnB B (insM x l) := fun y hy => by
  rcases mem_ins.1 hy with rfl | hy
  · exact hx
  · exact h y hy
theorem finJ_own {B : Nat} {g : Group} {l : List Member} {x : Member} {b : Bool} (h : OwnB B l) (hx : x.own.length ≤ B) : OwnB B (finJ g l x b).1.l := by
  unfold finJ
  split
  · split
    · exact h.unjoin.ins hx
    · intro y hy; cases hy
  · exact h.ins hx
theorem join_own {B : Nat} {g : Group} {m : Member} {now : Int} (h : OwnB B g.l) : OwnB B (joinG g m now).1.l := by
  have hj := join_ways g m now
  generalize joinG g m now = r at hj ⊢
  cases hj with
  | bad h1 h2 => intro y hy; cases hy
  | arg h1 h2 => intro y hy; cases hy
  | @back i was h1 h2 hi hid hst => exact finJ_own (h.sub (del_sub _ _)) (Nat.le_trans List.filter_sublist.length_le (h was (List.mem_of_getElem? hi)))
  | @stays i was h1 h2 hno hi hs hst => exact finJ_own (h.sub (del_sub _ _)) (h was (List.mem_of_getElem? hi))
  | many h1 hn => intro y hy; cases hy
  | new h1 h2 hno hs hn => exact finJ_own h (Nat.zero_le _)
theorem OwnB.setAt {B : Nat} {l : List Member} (h : OwnB B l) (p : Nat) {f : Member → Member} (hf : ∀ y ∈ l, (f y).own.length ≤ B) : OwnB B (setAt p f l) := by
  unfold Wm.setAt
  split
  · rename_i m hm
    intro y hy
    rcases List.mem_or_eq_of_mem_set hy with hy | rfl
    · exact h y hy
    · exact hf m (List.mem_of_getElem? hm)
  · exact h
theorem isName_le {s : ByteArray} (h : isName s = true) : s.size ≤ 64 := by
  unfold isName at h
  simp only [Bool.and_eq_true, decide_eq_true_eq] at h
  exact h.2.2
theorem ChkG.ok {x : Group} (h : ChkG x) : x.ok := by
  refine ⟨Nat.le_trans (isName_le h.name) (by decide), ?_, ?_, trivial⟩
  · unfold I64; have h1 := h.gen0; have h2 := h.gen1; omega
  · unfold I64; rw [h.state]
    unfold stateG
    repeat' split
    all_goals omega
end Go.Wm
namespace Go.Wm
open Go.RowKit Go.Proofs
theorem bytes28 : Try.prog.bytesOf 28 = 96 := by kernel_rfl
theorem bytes9 : Try.prog.bytesOf 9 = 16 := by kernel_rfl
theorem bytes63 : Try.prog.bytesOf 63 = 32 := by kernel_rfl
theorem reach47 : reachBytes ≤ 140737488355328 := by decide
theorem Member.smallS {m : Member} (h : m.small) : m.subs.length * 16 ≤ 140737488355328 ∧ m.own.length * 32 ≤ 140737488355328 := by
  obtain ⟨_, _, ⟨h1, _⟩, ⟨h2, _⟩, _⟩ := h
  rw [bytes9] at h1
  rw [bytes63] at h2
  exact ⟨Nat.le_trans h1 reach47, Nat.le_trans h2 reach47⟩
theorem Group.smallG {g : Group} (h : g.small) : SmallG g := by
  obtain ⟨_, _, _, h1, h2⟩ := h
  rw [bytes28] at h1
  exact ⟨Nat.le_trans h1 reach47, fun m hm => Member.smallS (h2 m hm)⟩
theorem small_own {g : Group} (h : SmallG g) : OwnB 4398046511104 g.l := fun y hy => by
  have := (h.2 y hy).2
  omega
theorem smallG_of {x : Group} (h : ChkG x) (ho : OwnB 4398046511104 x.l) : SmallG x := ⟨by have := h.few; omega, fun m hm => by
  have h1 := ho m hm
  have h2 := (right_all.1 h.right).1 m hm
  unfold memOk at h2
  simp only [Bool.and_eq_true, decide_eq_true_eq] at h2
  have h3 := h2.2.2.2.1
  exact ⟨by omega, by omega⟩⟩
attribute [local irreducible] RG CG EG WA Loc Det Alc CT Exit.then Exit.inBlock Code.wp bodyPost
end Go.Wm
namespace Go.Wm
open Go.RowKit Go.Proofs
def roundW (g : Group) : Group := { g with gen := IntKind.i64.wrap (g.gen + 1), l := g.l.map unjoin }
def lessW (g : Group) (f : Member → Bool) (e : Int) : Group × Int :=
  if (decide ((g.l.filter fun m => !f m).length < g.l.length) && (decide (0 < (g.l.filter fun m => !f m).length) && (g.state == 2))) = true
  then toldG (roundW { g with l := g.l.filter fun m => !f m }) (wantE e (decide (g.gen < 1048576)) 2)
  else toldG { g with l := g.l.filter fun m => !f m } e
section
variable {P : Program} {o : Oper} {e : Env} {k : PH}
end
attribute [local irreducible] RG CG EG WA Loc Det Alc CT Exit.then Exit.inBlock Code.wp bodyPost
end Go.Wm
namespace Go.Wm
open Go.RowKit Go.Proofs
theorem KeepAt0.add {N : Nat} {KK k : PH} {bk b : Nat} {v : Value} {g : Group} {e : Int} {o : Obj} (h : KeepAt0 N KK k bk v g e) (hb : k b = some o) (hn : ¬ b = bk) (hv : v.ownBlock ≠ some b) : KeepAt0 N (upd KK b o) k bk v g e := by
  have hKK : Le KK (upd KK b o) := fun c ob hc => by
    by_cases e : c = b
    · subst e
      have := h.le _ _ hc
      rw [hb] at this
      rw [upd_same]; exact this
    · rw [upd_other e]; exact hc
  obtain ⟨css, u1, u2⟩ := h.row
  refine ⟨h.at', h.nb, upd_le h.le hb, (upd_other fun e => hn e.symm).trans h.kb, fun gg hgg => ?_, css, u1.le hKK, u2⟩
  rw [upd_other (fun e => hv (by rw [← e]; exact hgg))]
  exact h.ap gg hgg
def lateW (now most : Int) (m : Member) : Bool := decide (IntKind.i64.wrap (m.beat + most) < now)
attribute [local irreducible] RG CG EG WA Loc Det Alc CT Exit.then Exit.inBlock Code.wp bodyPost
end Go.Wm
namespace Go.Wm
open Go.RowKit Go.Proofs
/-- What is so behind anything that is done. -/
structure DoneOk (B : Nat) (g : Group) (q : Group × Int) : Prop where
  no : q.2 ≠ 0 → q.1 = noG
  chk : q.2 = 0 → ChkG q.1
  lo : q.2 = 0 → g.gen ≤ q.1.gen
  hi : q.2 = 0 → q.1.gen ≤ g.gen + 1
  stay : q.2 = 0 → q.1.gen = g.gen → g.state = 2 → q.1.state ≠ 2 → q.1.l.length = 0
  own : OwnB B q.1.l
theorem DoneOk.bad {B : Nat} {g : Group} {e : Int} (h : e ≠ 0) : DoneOk B g (noG, e) := ⟨fun _ => rfl, fun h0 => absurd h0 h, fun h0 => absurd h0 h, fun h0 => absurd h0 h, fun h0 => absurd h0 h, fun y hy => by cases hy⟩
end Go.Wm
namespace Go.Wm
open Go.RowKit Go.Proofs
open Classical in
/-- Sync, as a function of what it is handed. -/
noncomputable def syncF (g : Group) (id : ByteArray) (gen now : Int) (tps : List Tp) : Group × List Tp × Int :=
  if h : ∃ p : Group × List Tp × Int, SyncR g id gen now tps p.1 p.2.1 p.2.2 then h.choose else (noG, [], 0)
noncomputable def doneF (g : Group) (o : GOp) (tps : List Tp) : Group × Int :=
  if o.kind = 1 then joinG g o.m o.now else
  if o.kind = 2 then ((syncF g o.m.id (IntKind.i64.wrap (g.gen - o.gen)) o.now tps).1, (syncF g o.m.id (IntKind.i64.wrap (g.gen - o.gen)) o.now tps).2.2) else
  if o.kind = 3 then beatG g o.m.id (IntKind.i64.wrap (g.gen - o.gen)) o.now else
  if o.kind = 4 then leaveG g o.m.id else tickG g o.now o.most
def DoneV (B : Nat) (g : Group) (q : Group × Int) : PH → Value → Prop := fun k v => DoneOk B g q ∧ GrpV q k v
theorem DoneV.mono {B : Nat} {g : Group} {q : Group × Int} : ∀ k k' v, Le k k' → DoneV B g q k v → DoneV B g q k' v := fun k k' v hle ⟨h1, h2⟩ => ⟨h1, GrpV.mono _ _ _ hle h2⟩
attribute [local irreducible] RG CG EG WA Loc Det Alc CT Exit.then Exit.inBlock Code.wp bodyPost
end Go.Wm
namespace Go.Wm
open Go.RowKit
/-- What a call has told that was made with less than is known. -/
def Und (h kq : PH) (φ : PH → Value → Prop) : PH → Value → Prop := fun k v => ∃ k2, Le h k2 ∧ (∀ b o, kq b = some o → k2 b = h b) ∧ Le k2 k ∧ φ k2 v
theorem Und.mono {h kq : PH} {φ : PH → Value → Prop} : (PV.such (Und h kq φ)).Mono := fun k k' v hle ⟨k2, h1, h2, h3, h4⟩ => ⟨k2, h1, h2, h3.trans hle, h4⟩
theorem Und.imp {h kq k : PH} {φ ψ : PH → Value → Prop} {v u : Value} (hu : Und h kq φ k v) (hi : ∀ k, φ k v → ψ k u) : Und h kq ψ k u := by
  obtain ⟨k2, h1, h2, h3, h4⟩ := hu
  exact ⟨k2, h1, h2, h3, hi _ h4⟩
theorem loci_hct {P : Program} {n : Nat} {ops : Array Oper} {o : Oper} {e : Env} {k kq h : PH} {I : PH → World → Prop} {x : Operand} {args : Array Operand} {ats : Array TypeId} {g : FuncId} {first cap : Array Value} {vs : List Value} [FnOk P g] {φ : PH → Value → Prop}
    (hg : wantedE ops e o = some true) (hop : o.op = .call { callee := .value x, args := args, argTypes := ats }) (hx : opv e x = some (.func (.func g) first cap)) (ha : opvs e args.toList = some vs) (hkq : Le kq k) (hle : Le h k) (hct : CT P g (first ++ vs.toArray ++ cap) h φ) : LocI P n ops I o e k (.such (Und h kq φ)) := by
  refine ⟨Und.mono, fun a w k1 hk hs hi _ hl => ?_⟩
  rw [if_pos (wanted_of hl hg)]
  refine ex_enter (run_call hop hx ha (evs_of hl)) ((hct w h (Le.refl _) (hs.mono (hle.trans hk))).mono ?_)
  rintro en w' ⟨v, k2, h1, h2, h3, h4, h5⟩
  have hag' : Agr w.heap.size k1 (fun b => if b < w.heap.size then k1 b else k2 b) := fun b hb => by simp [hb]
  have hsub' : Sub (fun b => if b < w.heap.size then k1 b else k2 b) w' := fun b ob hb => by
    by_cases hbl : b < w.heap.size
    · simp only [hbl, if_true] at hb
      rw [h2.block b hbl]; exact hs b ob hb
    · simp only [hbl, if_false] at hb
      exact h4 b ob hb
  refine ⟨v, h1, fun b => if b < w.heap.size then k1 b else k2 b, h2, hag', hsub', k2, h3.le (hs.mono (hle.trans hk)), fun b o hb => h3 b (hs.lt (hk _ _ (hkq _ _ hb))), fun b ob hb => ?_, h5⟩
  by_cases hbl : b < w.heap.size
  · simp only [hbl, if_true]
    have := h3 b hbl
    rw [this] at hb
    exact (hle.trans hk) b ob hb
  · simp only [hbl, if_false]; exact hb
end Go.Wm
namespace Go.Wm
open Go.RowKit Go.Proofs
instance : RdW Try.prog 49 (tSl tGOp) (fun xs => (xs.length * Try.prog.bytesOf 53 ≤ reachBytes ∧ ∀ y0 ∈ xs, y0.small)) := rdw_slice Try.underlying49 (by kernel_rfl) (by decide)
attribute [local irreducible] RG CG EG WA Loc Det Alc CT Exit.then Exit.inBlock Code.wp bodyPost
end Go.Wm
namespace Go.Wm
open Go.RowKit Go.Proofs
def rejoin (now : Int) (m : Member) : Member := { m with beat := now, joined := true }
/-- The members behind i of them have joined again. -/
structure RInv (g : Group) (mx : Member) (now : Int) (i : Nat) (x : Group) : Prop where
  chk : ChkG x
  gen : x.gen = g.gen + 1
  mem : ∀ y, y ∈ x.l ↔ y = mx ∨ ∃ j, ∃ hj : j < g.l.length, y = if j < i then rejoin now g.l[j] else unjoin g.l[j]
  st : x.state = 2 ↔ i = g.l.length
theorem RInv.at {g : Group} {mx : Member} {now : Int} {i : Nat} {x : Group} (h : RInv g mx now i x) {j : Nat} (hj : j < g.l.length) : hasId g.l[j].id x.l = true ∧ ∀ y ∈ x.l, y.id = g.l[j].id → y = if j < i then rejoin now g.l[j] else unjoin g.l[j] := by
  have hm : (if j < i then rejoin now g.l[j] else unjoin g.l[j]) ∈ x.l := (h.mem _).2 (.inr ⟨j, hj, rfl⟩)
  have hid : (if j < i then rejoin now g.l[j] else unjoin g.l[j]).id = g.l[j].id := by split <;> rfl
  exact ⟨hasId_true.2 ⟨_, hm, hid⟩, fun y hy he => id_uniq h.chk.right hy hm (he.trans hid.symm)⟩
theorem round_begin {g : Group} {m : Member} {now : Int} (hst : g.state = 2) (hno : hasId m.id g.l = false) (hs : m.static = ⟨#[]⟩) (he : (joinG g m now).2 = 0) :
    ∃ x mx, joinG g m now = (x, 0) ∧ ChkG g ∧ RInv g mx now 0 x ∧ x.state = 1 ∧ x.l.length = g.l.length + 1 ∧ timeOk now = true ∧ 0 < g.l.length ∧ mx.joined = true := by
  have hok := join_ok he
  have hj := join_ways g m now
  generalize joinG g m now = r at hj he hok ⊢
  cases hj with
  | bad h h1 => rw [h1] at he; exact absurd he h
  | arg h h2 => cases he
  | back h h2 hi hid hst2 => exact absurd hid (hasId_false.1 hno _ (List.mem_of_getElem? hi))
  | stays h h2 hno2 hi hs2 hst2 => exact absurd hs hs2
  | many h hn => cases he
  | new h h2 hno2 hs2 hn =>
    have hb : decide (g.state ≠ 1) = true := by simp [hst]
    have hl0 := (stateG_two.1 (h.state ▸ hst)).1
    rw [hb] at he hok ⊢
    unfold finJ at he hok ⊢
    rw [if_pos rfl] at he hok ⊢
    split at he
    · rename_i hg
      rw [if_pos hg] at hok ⊢
      have hs1 : stateG (insM { m with beat := now, joined := true, own := [] } (g.l.map unjoin)) = 1 := by
        unfold stateG
        rw [ins_len, if_neg (by omega), if_pos]
        refine List.any_eq_true.2 ⟨unjoin g.l[0], mem_ins.2 (.inr (List.mem_map.2 ⟨_, List.getElem_mem hl0, rfl⟩)), rfl⟩
      refine ⟨_, { m with beat := now, joined := true, own := [] }, rfl, h, ⟨hok, rfl, fun y => ?_, ?_⟩, hs1, ?_, memOk_time h2, hl0, rfl⟩
      · show y ∈ insM _ (g.l.map unjoin) ↔ _
        rw [mem_ins]
        constructor
        · rintro (rfl | hy)
          · exact .inl rfl
          · obtain ⟨z, hz, rfl⟩ := List.mem_map.1 hy
            obtain ⟨j, hj, rfl⟩ := List.getElem_of_mem hz
            exact .inr ⟨j, hj, by rw [if_neg (by omega)]⟩
        · rintro (rfl | ⟨j, hj, rfl⟩)
          · exact .inl rfl
          · rw [if_neg (by omega)]
            exact .inr (List.mem_map.2 ⟨_, List.getElem_mem hj, rfl⟩)
      · show stateG _ = 2 ↔ _
        rw [hs1]
        omega
      · show (insM _ _).length = _
        rw [ins_len, List.length_map]
    · cases he
theorem metOf_self (l : List Tp) : metOf l l = l := List.filter_eq_self.2 fun t ht => by simpa using ht
theorem round_step {g : Group} {mx : Member} {now : Int} {i : Nat} {x : Group} (hg : ChkG g) (h : RInv g mx now i x) (hi : i < g.l.length) (ht : timeOk now = true) (hmx : mx.joined = true) :
    ∃ y, joinG x g.l[i] now = (y, 0) ∧ RInv g mx now (i + 1) y := by
  obtain ⟨hhas, huniq⟩ := h.at hi
  obtain ⟨was, hw, hid⟩ := has_at h.chk.right hhas
  have hwas := huniq was (List.mem_of_getElem? hw) hid
  rw [if_neg (by omega)] at hwas
  have hmo : memOk g.l[i] = true := (right_all.1 hg.right).1 _ (List.getElem_mem hi)
  have hm2 : memOk { g.l[i] with beat := now, joined := true } = true := memOk_beat hmo ht
  have hne : x.state ≠ 2 := fun e => by have := h.st.1 e; omega
  have hb : decide (x.state = 2) = false := by simp [hne]
  have hjn : joinG x g.l[i] now = ({ x with l := insM (rejoin now g.l[i]) (delM (posF (byId g.l[i].id) x.l) x.l), state := stateG (insM (rejoin now g.l[i]) (delM (posF (byId g.l[i].id) x.l) x.l)) }, 0) := by
    unfold joinG
    rw [if_neg (by rw [chk_of h.chk]; simp), if_neg (by rw [hm2]; simp), if_pos hhas, hw]
    dsimp only
    rw [if_neg (by rw [hwas]; simp [unjoin]), hb]
    have : metOf was.own g.l[i].own = g.l[i].own := by rw [hwas]; exact metOf_self _
    rw [this]
    rfl
  have hok := join_ok (g := x) (m := g.l[i]) (now := now) (by rw [hjn])
  rw [hjn] at hok
  have hmem : ∀ y, y ∈ insM (rejoin now g.l[i]) (delM (posF (byId g.l[i].id) x.l) x.l) ↔ y = mx ∨ ∃ j, ∃ hj : j < g.l.length, y = if j < i + 1 then rejoin now g.l[j] else unjoin g.l[j] := by
    intro y
    have hdel : ∀ y, y ∈ delM (posF (byId g.l[i].id) x.l) x.l ↔ y ∈ x.l ∧ y.id ≠ g.l[i].id := fun y => by
      constructor
      · intro hy
        refine ⟨(del_sub _ _).subset hy, fun e => ?_⟩
        have := hasId_false.1 (ids_inj h.chk.right hw) y hy
        exact this (e.trans hid.symm)
      · rintro ⟨hy, hne⟩
        rcases List.mem_cons.1 ((del_perm hw).mem_iff.1 hy) with rfl | hy
        · exact absurd hid hne
        · exact hy
    rw [mem_ins, hdel, h.mem]
    constructor
    · rintro (rfl | ⟨rfl | ⟨j, hj, rfl⟩, hne⟩)
      · exact .inr ⟨i, hi, by rw [if_pos (by omega)]⟩
      · exact .inl rfl
      · refine .inr ⟨j, hj, ?_⟩
        have hji : j ≠ i := fun e => by subst e; exact hne (by split <;> rfl)
        by_cases hlt : j < i
        · rw [if_pos hlt, if_pos (by omega)]
        · rw [if_neg hlt, if_neg (by omega)]
    · rintro (rfl | ⟨j, hj, rfl⟩)
      · refine .inr ⟨.inl rfl, fun e => ?_⟩
        have hmxin : y ∈ x.l := (h.mem y).2 (.inl rfl)
        have := huniq y hmxin e
        rw [if_neg (by omega)] at this
        rw [this] at hmx
        cases hmx
      · by_cases hji : j = i
        · subst hji
          rw [if_pos (by omega)]
          exact .inl rfl
        · refine .inr ⟨.inr ⟨j, hj, ?_⟩, ?_⟩
          · by_cases hlt : j < i
            · rw [if_pos hlt, if_pos (by omega)]
            · rw [if_neg hlt, if_neg (by omega)]
          · intro e
            have e2 : g.l[j].id = g.l[i].id := by
              rw [← e]; split <;> rfl
            have h1 : (if j < i then rejoin now g.l[j] else unjoin g.l[j]) ∈ x.l := (h.mem _).2 (.inr ⟨j, hj, rfl⟩)
            have hg1 := id_uniq hg.right (List.getElem_mem hj) (List.getElem_mem hi) e2
            have hp := List.pairwise_iff_getElem.1 (right_all.1 hg.right).2
            rcases Nat.lt_or_gt_of_ne hji with h3 | h3
            · have := hp j i hj hi h3
              have e3 : ordId g.l[j] g.l[i] = 0 := cmpStr_eq.2 e2
              omega
            · have := hp i j hi hj h3
              have e3 : ordId g.l[i] g.l[j] = 0 := cmpStr_eq.2 e2.symm
              omega
  refine ⟨_, hjn, hok, h.gen, hmem, ?_⟩
  show stateG (insM _ _) = 2 ↔ i + 1 = g.l.length
  rw [stateG_two]
  constructor
  · rintro ⟨_, hall⟩
    apply Classical.byContradiction
    intro hne2
    have hlt : i + 1 < g.l.length := by omega
    have := hall (unjoin g.l[i + 1]) ((hmem _).2 (.inr ⟨i + 1, hlt, by rw [if_neg (by omega)]⟩))
    cases this
  · intro he
    refine ⟨by rw [ins_len]; omega, fun y hy => ?_⟩
    rcases (hmem y).1 hy with rfl | ⟨j, hj, rfl⟩
    · exact hmx
    · rw [if_pos (by omega)]; rfl
theorem beat_again {x : Group} (h : ChkG x) {id : ByteArray} (gen : Int) {now : Int} (ht : timeOk now = true) (hh : hasId id x.l = true) (hj : ∀ y ∈ x.l, y.id = id → y.joined = false) : (beatG x id gen now).2 = 232 := by
  obtain ⟨was, hw, hid⟩ := has_at h.right hh
  unfold beatG
  rw [if_neg (by rw [chk_of h]; simp), if_neg (by rw [ht]; simp), if_neg (by rw [hh]; simp), hw, if_pos]
  rw [Option.map_some, hj was (List.mem_of_getElem? hw) hid]
  simp
theorem syncE_again {x : Group} (h : ChkG x) {id : ByteArray} (gen : Int) {now : Int} (ht : timeOk now = true) (hh : hasId id x.l = true) (hs : x.state = 1) : syncE x id gen now [] = 232 := by
  unfold syncE
  have hr : RightP ordTp tpOk [] := fun i hi => by simp at hi
  rw [if_neg (by rw [chk_of h]; simp), if_neg (by rw [ht]; simp [hr]), if_neg (by rw [hh]; simp), if_pos hs]
end Go.Wm

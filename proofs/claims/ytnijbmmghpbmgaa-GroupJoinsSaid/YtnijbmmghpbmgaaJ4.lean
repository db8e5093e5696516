/-
  A call in a region that draws, made with less than is known. Conditions: none beyond those of the law.
-/
import Derived.Test.YtnijbmmghpbmgaaR10
import Derived.Test.YtnijbmmghpbmgaaJ3
import Derived.Test.YtnijbmmghpbmgaaN8
set_option linter.all false
namespace Go.Wm
open Go.RowKit Go.Proofs
theorem idxF_some {α : Type} {l : List α} {f : α → Bool} {i : Nat} (h : idxF l f = (i : Int)) : l.findIdx? f = some i := by
  unfold idxF at h
  split at h
  · rename_i j hj; rw [hj]; congr 1; omega
  · omega
theorem idxF_none {α : Type} {l : List α} {f : α → Bool} (h : idxF l f = -1) : l.findIdx? f = none := by
  unfold idxF at h
  split at h
  · omega
  · assumption
theorem withM_ins {x : Member} {l : List Member} (h : hasId x.id l = false) : withM x l = insM x l := by
  have hp : posF (byId x.id) l = posW x l := by
    refine posF_eq (posW_le x l) (fun q hq hlt => ?_) (fun hlt => ?_)
    · have h1 : aboveM x l[q] = false := by simpa using List.not_of_lt_findIdx hlt
      have h1 := of_decide_eq_false h1
      have h2 := hasId_false.1 h l[q] (List.getElem_mem hq)
      have h3 : cmpStr l[q].id x.id ≠ 0 := fun e => h2 (cmpStr_eq.1 e)
      have h4 := ordL_str.sw l[q].id x.id
      have h5 := ordL_str.sw x.id l[q].id
      show cmpStr l[q].id x.id < 0
      omega
    · have h1 : aboveM x (l[posW x l]'hlt) = true := List.findIdx_getElem
      have h1 := of_decide_eq_true h1
      have h4 := ordL_str.sw (l[posW x l]'hlt).id x.id
      have h5 := ordL_str.sw x.id (l[posW x l]'hlt).id
      show ¬ cmpStr (l[posW x l]'hlt).id x.id < 0
      omega
  unfold withM insM
  rw [hp]
theorem delN_map (n : Int) (l : List Member) : delN n (l.map unjoin) = (delN n l).map unjoin := by
  unfold delN
  split
  · rw [List.eraseIdx_eq_take_drop_succ, List.eraseIdx_eq_take_drop_succ, List.map_append, List.map_take, List.map_drop]
  · rfl
def tellW (g : Group) (n : Int) (x : Member) : Group := { g with l := withM x (delN n g.l), state := stateG (withM x (delN n g.l)) }
/-- What the document does when it is known what the member has, and who goes for it. -/
def finR (g : Group) (n : Int) (x : Member) (b : Bool) : Group × Int := if b = true then (if 1048576 ≤ g.gen then (noG, 2) else (tellW (roundG g) n x, 0)) else (tellW g n x, 0)
theorem finR_J {g : Group} {n : Int} {x : Member} {b : Bool} (h : hasId x.id (delN n g.l) = false) : finR g n x b = finJ g (delN n g.l) x b := by
  unfold finR finJ
  by_cases hb : b = true
  · rw [if_pos hb, if_pos hb]
    by_cases hg : 1048576 ≤ g.gen
    · rw [if_pos hg, if_neg (by omega)]
    · rw [if_neg hg, if_pos (by omega)]
      have e : withM x (delN n (roundG g).l) = insM x ((delN n g.l).map unjoin) := by
        show withM x (delN n (g.l.map unjoin)) = _
        rw [delN_map, withM_ins (by rw [hasId_unjoin]; exact h)]
      unfold tellW
      rw [e]; rfl
  · rw [if_neg hb, if_neg hb]
    unfold tellW
    rw [withM_ins h]
theorem pos_at {id : ByteArray} {l : List Member} {i : Nat} (h : RightP ordId memOk l) (hi : i < l.length) (hid : l[i].id = id) : posF (byId id) l = i := by
  obtain ⟨_, h2⟩ := right_all.1 h
  refine posF_eq (Nat.le_of_lt hi) (fun q hq hlt => ?_) (fun _ => ?_)
  · have := List.pairwise_iff_getElem.1 h2 q i hq hi hlt
    show cmpStr l[q].id id < 0
    rw [← hid]; exact this
  · show ¬ cmpStr l[i].id id < 0
    rw [hid, cmpStr_eq.2 rfl]; omega
section
variable {g : Group} {m : Member} {now : Int}
theorem ref_backs {i : Nat} (hc : chkG g = 0) (hm : memOk { m with beat := now, joined := true } = true) (hi : i < g.l.length) (hid : g.l[i].id = m.id) (hst : g.l[i].static = m.static) : finR g (i : Int) { m with beat := now, joined := true, own := metOf g.l[i].own m.own } (g.state == 2) = joinG g m now := by
  have hr := chk_right hc
  have hw : g.l[i]? = some g.l[i] := List.getElem?_eq_getElem hi
  unfold joinG
  rw [if_neg (fun h => h hc), if_neg (by rw [hm]; decide), if_pos (hasId_true.2 ⟨_, List.getElem_mem hi, hid⟩), pos_at hr hi hid, hw]
  dsimp only
  rw [if_neg (fun h => h hst), finR_J (by rw [delN_del hi]; show hasId m.id _ = false; rw [← hid]; exact ids_inj hr hw), delN_del hi]
  rfl
theorem ref_backn {i : Nat} (hc : chkG g = 0) (hm : memOk { m with beat := now, joined := true } = true) (hi : i < g.l.length) (hid : g.l[i].id = m.id) (hst : g.l[i].static ≠ m.static) : joinG g m now = (noG, 1) := by
  have hr := chk_right hc
  have hw : g.l[i]? = some g.l[i] := List.getElem?_eq_getElem hi
  unfold joinG
  rw [if_neg (fun h => h hc), if_neg (by rw [hm]; decide), if_pos (hasId_true.2 ⟨_, List.getElem_mem hi, hid⟩), pos_at hr hi hid, hw]
  dsimp only
  rw [if_pos hst]
theorem ref_stays {s : Nat} (hc : chkG g = 0) (hm : memOk { m with beat := now, joined := true } = true) (hno : hasId m.id g.l = false) (hs : s < g.l.length) (hx : idxF g.l (sameStat m.static) = (s : Int)) : finR g (s : Int) { m with beat := now, joined := true, own := g.l[s].own } ((g.state == 2) && !decide (g.l[s].subs = m.subs)) = joinG g m now := by
  have hw : g.l[s]? = some g.l[s] := List.getElem?_eq_getElem hs
  unfold joinG
  rw [if_neg (fun h => h hc), if_neg (by rw [hm]; decide), if_neg (by rw [hno]; decide), idxF_some hx]
  dsimp only
  rw [hw]
  dsimp only
  rw [finR_J (by rw [delN_del hs]; exact hasId_false.2 fun y hy => hasId_false.1 hno y ((del_sub _ _).subset hy)), delN_del hs]
  rfl
theorem ref_many (hc : chkG g = 0) (hm : memOk { m with beat := now, joined := true } = true) (hno : hasId m.id g.l = false) (hx : idxF g.l (sameStat m.static) = -1) (hn : 64 ≤ g.l.length) : joinG g m now = (noG, 2) := by
  unfold joinG
  rw [if_neg (fun h => h hc), if_neg (by rw [hm]; decide), if_neg (by rw [hno]; decide), idxF_none hx]
  dsimp only
  rw [if_pos hn]
theorem ref_new (hc : chkG g = 0) (hm : memOk { m with beat := now, joined := true } = true) (hno : hasId m.id g.l = false) (hx : idxF g.l (sameStat m.static) = -1) (hn : g.l.length < 64) : finR g (-1) { m with beat := now, joined := true, own := [] } (g.state != 1) = joinG g m now := by
  unfold joinG
  rw [if_neg (fun h => h hc), if_neg (by rw [hm]; decide), if_neg (by rw [hno]; decide), idxF_none hx]
  dsimp only
  rw [if_neg (by omega), finR_J (show hasId m.id g.l = false from hno)]
  show finJ g g.l _ _ = _
  congr 1
  rw [Bool.eq_iff_iff]; simp
end
end Go.Wm
namespace Go.Wm
open Go.RowKit
/-- What a call has told that was made with less than is known. -/
def Und (h kq : PH) (φ : PH → Value → Prop) : PH → Value → Prop := fun k v => ∃ k2, Le h k2 ∧ (∀ b o, kq b = some o → k2 b = h b) ∧ Le k2 k ∧ φ k2 v
theorem Und.mono {h kq : PH} {φ : PH → Value → Prop} : (PV.such (Und h kq φ)).Mono := fun k k' v hle ⟨k2, h1, h2, h3, h4⟩ => ⟨k2, h1, h2, h3.trans hle, h4⟩
theorem Und.imp {h kq k : PH} {φ ψ : PH → Value → Prop} {v u : Value} (hu : Und h kq φ k v) (hi : ∀ k, φ k v → ψ k u) : Und h kq ψ k u := by
  obtain ⟨k2, h1, h2, h3, h4⟩ := hu
  exact ⟨k2, h1, h2, h3, hi _ h4⟩
theorem loci_hct {P : Program} {n : Nat} {ops : Array Oper} {o : Oper} {e : Env} {k kq h : PH} {I : PH → World → Prop} {x : Operand} {args : Array Operand} {ats : Array TypeId} {g : FuncId} {first cap : Array Value} {vs : List Value} [FnOk P g] {φ : PH → Value → Prop}
    (hg : wantedE ops e o = some true) (hop : o.op = .call { callee := .value x, args := args, argTypes := ats }) (hx : opv e x = some (.func (.func g) first cap)) (ha : opvs e args.toList = some vs) (hkq : Le kq k) (hle : Le h k) (hct : CT P g (first ++ vs.toArray ++ cap) h φ) : LocI P n ops I o e k (.such (Und h kq φ)) := by
  refine ⟨Und.mono, fun a w k1 hk hs hi _ hl => ?_⟩
  rw [if_pos (wanted_of hl hg)]
  refine ex_enter (run_call hop hx ha (evs_of hl)) ((hct w h (Le.refl _) (hs.mono (hle.trans hk))).mono ?_)
  rintro en w' ⟨v, k2, h1, h2, h3, h4, h5⟩
  have hag' : Agr w.heap.size k1 (fun b => if b < w.heap.size then k1 b else k2 b) := fun b hb => by simp [hb]
  have hsub' : Sub (fun b => if b < w.heap.size then k1 b else k2 b) w' := fun b ob hb => by
    by_cases hbl : b < w.heap.size
    · simp only [hbl, if_true] at hb
      rw [h2.block b hbl]; exact hs b ob hb
    · simp only [hbl, if_false] at hb
      exact h4 b ob hb
  refine ⟨v, h1, fun b => if b < w.heap.size then k1 b else k2 b, h2, hag', hsub', k2, h3.le (hs.mono (hle.trans hk)), fun b o hb => h3 b (hs.lt (hk _ _ (hkq _ _ hb))), fun b ob hb => ?_, h5⟩
  by_cases hbl : b < w.heap.size
  · simp only [hbl, if_true]
    have := h3 b hbl
    rw [this] at hb
    exact (hle.trans hk) b ob hb
  · simp only [hbl, if_false]; exact hb
end Go.Wm

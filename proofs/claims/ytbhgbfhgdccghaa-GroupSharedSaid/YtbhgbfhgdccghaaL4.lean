/-
  The walk of the law on whatever is done to a group. Conditions: that what is handed in reads as data.
-/
import Derived.Test.YtbhgbfhgdccghaaK7
import Derived.Test.YtbhgbfhgdccghaaL1
import Derived.Test.YtbhgbfhgdccghaaR1
import Derived.Test.YtbhgbfhgdccghaaN12
set_option linter.all false
namespace Go.Wm
open Go.RowKit Go.Proofs
theorem id_uniq {l : List Member} (h : RightP ordId memOk l) {a b : Member} (ha : a ∈ l) (hb : b ∈ l) (he : a.id = b.id) : a = b := by
  obtain ⟨h1, h2⟩ := right_all.1 h
  obtain ⟨i, hi, rfl⟩ := List.getElem_of_mem ha
  obtain ⟨j, hj, rfl⟩ := List.getElem_of_mem hb
  have hp := List.pairwise_iff_getElem.1 h2
  rcases Nat.lt_trichotomy i j with h3 | h3 | h3
  · have := hp i j hi hj h3
    have e : ordId l[i] l[j] = 0 := cmpStr_eq.2 he
    omega
  · subst h3; rfl
  · have := hp j i hj hi h3
    have e : ordId l[j] l[i] = 0 := cmpStr_eq.2 he.symm
    omega
theorem stateG_two {l : List Member} : stateG l = 2 ↔ 0 < l.length ∧ ∀ m ∈ l, m.joined = true := by
  unfold stateG
  by_cases h0 : l.length = 0
  · simp [h0]
  · rw [if_neg h0]
    by_cases h1 : l.any (fun m => !m.joined) = true
    · rw [if_pos h1]
      refine ⟨fun h => by omega, fun h => ?_⟩
      obtain ⟨m, hm, hj⟩ := List.any_eq_true.1 h1
      rw [h.2 m hm] at hj; cases hj
    · rw [if_neg h1]
      refine ⟨fun _ => ⟨by omega, fun m hm => ?_⟩, fun _ => rfl⟩
      cases hj : m.joined
      · exact absurd (List.any_eq_true.2 ⟨m, hm, by rw [hj]; rfl⟩) h1
      · rfl
end Go.Wm
namespace Go.Wm
open Go.RowKit Go.Proofs
def OwnB (B : Nat) (l : List Member) : Prop := ∀ y ∈ l, y.own.length ≤ B
theorem OwnB.sub {B : Nat} {l l' : List Member} (h : OwnB B l) (hs : l'.Sublist l) : OwnB B l' := fun y hy => h y (hs.subset hy)
theorem OwnB.unjoin {B : Nat} {l : List Member} (h : OwnB B l) : OwnB B (l.map unjoin) := fun y hy => by
  obtain ⟨x, hx, rfl⟩ := List.mem_map.1 hy
  exact h x hx
theorem OwnB.ins {B : Nat} {l : List Member} {x : Member} (h : OwnB B l) (hx : x.own.length ≤ B) : OwnB B (insM x l) := fun y hy => by
  rcases mem_ins.1 hy with rfl | hy
  · exact hx
  · exact h y hy
theorem OwnB.setAt {B : Nat} {l : List Member} (h : OwnB B l) (p : Nat) {f : Member → Member} (hf : ∀ y ∈ l, (f y).own.length ≤ B) : OwnB B (setAt p f l) := by
  unfold Wm.setAt
  split
  · rename_i m hm
    intro y hy
    rcases List.mem_or_eq_of_mem_set hy with hy | rfl
    · exact h y hy
    · exact hf m (List.mem_of_getElem? hm)
  · exact h
theorem sync_own {B : Nat} {g x : Group} {id : ByteArray} {gen now : Int} {tps own : List Tp} {e : Int} (hs : SyncR g id gen now tps x own e) (h : OwnB B g.l) (ht : tps.length ≤ B) : OwnB B x.l := by
  by_cases hz : syncE g id gen now tps = 0
  · obtain ⟨w, h1, h2, h3, h4⟩ := hs.yes hz
    obtain ⟨c1, c2, c3, c4, c5, c6⟩ := syncE_zero hz
    rw [h3]
    refine h.setAt _ fun y hy => ?_
    show own.length ≤ B
    obtain ⟨was, hw, _⟩ := has_at c1.right c4
    rw [h2]
    exact Nat.le_trans (gotS_sub (List.getElem?_eq_some_iff.1 hw).1 h1.inv.len).length_le ht
  · obtain ⟨h1, _⟩ := hs.no hz
    rw [h1]
    intro y hy; cases hy
theorem isName_le {s : ByteArray} (h : isName s = true) : s.size ≤ 64 := by
  unfold isName at h
  simp only [Bool.and_eq_true, decide_eq_true_eq] at h
  exact h.2.2
theorem ChkG.ok {x : Group} (h : ChkG x) : x.ok := by
  refine ⟨Nat.le_trans (isName_le h.name) (by decide), ?_, ?_, trivial⟩
  · unfold I64; have h1 := h.gen0; have h2 := h.gen1; omega
  · unfold I64; rw [h.state]
    unfold stateG
    repeat' split
    all_goals omega
end Go.Wm
namespace Go.Wm
open Go.RowKit Go.Proofs
theorem bytes28 : Try.prog.bytesOf 38 = 96 := by kernel_rfl
theorem bytes9 : Try.prog.bytesOf 9 = 16 := by kernel_rfl
theorem bytes63 : Try.prog.bytesOf 41 = 32 := by kernel_rfl
theorem reach47 : reachBytes ≤ 140737488355328 := by decide
theorem Member.smallS {m : Member} (h : m.small) : m.subs.length * 16 ≤ 140737488355328 ∧ m.own.length * 32 ≤ 140737488355328 := by
  obtain ⟨_, _, ⟨h1, _⟩, ⟨h2, _⟩, _⟩ := h
  rw [bytes9] at h1
  rw [bytes63] at h2
  exact ⟨Nat.le_trans h1 reach47, Nat.le_trans h2 reach47⟩
theorem Group.smallG {g : Group} (h : g.small) : SmallG g := by
  obtain ⟨_, _, _, h1, h2⟩ := h
  rw [bytes28] at h1
  exact ⟨Nat.le_trans h1 reach47, fun m hm => Member.smallS (h2 m hm)⟩
theorem small_own {g : Group} (h : SmallG g) : OwnB 4398046511104 g.l := fun y hy => by
  have := (h.2 y hy).2
  omega
theorem smallG_of {x : Group} (h : ChkG x) (ho : OwnB 4398046511104 x.l) : SmallG x := ⟨by have := h.few; omega, fun m hm => by
  have h1 := ho m hm
  have h2 := (right_all.1 h.right).1 m hm
  unfold memOk at h2
  simp only [Bool.and_eq_true, decide_eq_true_eq] at h2
  have h3 := h2.2.2.2.1
  exact ⟨by omega, by omega⟩⟩
attribute [local irreducible] RG CG EG WA Loc Det Alc CT Exit.then Exit.inBlock Code.wp bodyPost
end Go.Wm
-- cut by zcut
namespace Go.Wm
open Go.RowKit Go.Proofs
def roundW (g : Group) : Group := { g with gen := IntKind.i64.wrap (g.gen + 1), l := g.l.map unjoin }
def lessW (g : Group) (f : Member → Bool) (e : Int) : Group × Int :=
  if (decide ((g.l.filter fun m => !f m).length < g.l.length) && (decide (0 < (g.l.filter fun m => !f m).length) && (g.state == 2))) = true
  then toldG (roundW { g with l := g.l.filter fun m => !f m }) (wantE e (decide (g.gen < 1048576)) 2)
  else toldG { g with l := g.l.filter fun m => !f m } e
section
variable {P : Program} {o : Oper} {e : Env} {k : PH}
end
attribute [local irreducible] RG CG EG WA Loc Det Alc CT Exit.then Exit.inBlock Code.wp bodyPost
end Go.Wm
-- cut by zcut
namespace Go.Wm
open Go.RowKit Go.Proofs
theorem KeepAt0.add {N : Nat} {KK k : PH} {bk b : Nat} {v : Value} {g : Group} {e : Int} {o : Obj} (h : KeepAt0 N KK k bk v g e) (hb : k b = some o) (hn : ¬ b = bk) (hv : v.ownBlock ≠ some b) : KeepAt0 N (upd KK b o) k bk v g e := by
  have hKK : Le KK (upd KK b o) := fun c ob hc => by
    by_cases e : c = b
    · subst e
      have := h.le _ _ hc
      rw [hb] at this
      rw [upd_same]; exact this
    · rw [upd_other e]; exact hc
  obtain ⟨css, u1, u2⟩ := h.row
  refine ⟨h.at', h.nb, upd_le h.le hb, (upd_other fun e => hn e.symm).trans h.kb, fun gg hgg => ?_, css, u1.le hKK, u2⟩
  rw [upd_other (fun e => hv (by rw [← e]; exact hgg))]
  exact h.ap gg hgg
def lateW (now most : Int) (m : Member) : Bool := decide (IntKind.i64.wrap (m.beat + most) < now)
attribute [local irreducible] RG CG EG WA Loc Det Alc CT Exit.then Exit.inBlock Code.wp bodyPost
end Go.Wm
-- cut by zcut
namespace Go.Wm
open Go.RowKit Go.Proofs
/-- What is so behind anything that is done. -/
structure DoneOk (B : Nat) (g : Group) (q : Group × Int) : Prop where
  no : q.2 ≠ 0 → q.1 = noG
  chk : q.2 = 0 → ChkG q.1
  lo : q.2 = 0 → g.gen ≤ q.1.gen
  hi : q.2 = 0 → q.1.gen ≤ g.gen + 1
  stay : q.2 = 0 → q.1.gen = g.gen → g.state = 2 → q.1.state ≠ 2 → q.1.l.length = 0
  own : OwnB B q.1.l
theorem DoneOk.bad {B : Nat} {g : Group} {e : Int} (h : e ≠ 0) : DoneOk B g (noG, e) := ⟨fun _ => rfl, fun h0 => absurd h0 h, fun h0 => absurd h0 h, fun h0 => absurd h0 h, fun h0 => absurd h0 h, fun y hy => by cases hy⟩
end Go.Wm
namespace Go.Wm
open Go.RowKit Go.Proofs
open Classical in
/-- Sync, as a function of what it is handed. -/
noncomputable def syncF (g : Group) (id : ByteArray) (gen now : Int) (tps : List Tp) : Group × List Tp × Int :=
  if h : ∃ p : Group × List Tp × Int, SyncR g id gen now tps p.1 p.2.1 p.2.2 then h.choose else (noG, [], 0)
theorem syncF_eq {g x : Group} {id : ByteArray} {gen now : Int} {tps own : List Tp} {e : Int} (h : SyncR g id gen now tps x own e) : syncF g id gen now tps = (x, own, e) := by
  have hex : ∃ p : Group × List Tp × Int, SyncR g id gen now tps p.1 p.2.1 p.2.2 := ⟨(x, own, e), h⟩
  unfold syncF
  rw [dif_pos hex]
  obtain ⟨h1, h2, h3⟩ := hex.choose_spec.same h
  exact Prod.ext h1 (Prod.ext h2 h3)
def DoneV (B : Nat) (g : Group) (q : Group × Int) : PH → Value → Prop := fun k v => DoneOk B g q ∧ GrpV q k v
theorem DoneV.mono {B : Nat} {g : Group} {q : Group × Int} : ∀ k k' v, Le k k' → DoneV B g q k v → DoneV B g q k' v := fun k k' v hle ⟨h1, h2⟩ => ⟨h1, GrpV.mono _ _ _ hle h2⟩
theorem apart_own {l : List Member} (h : (owns l).Nodup) {i j : Nat} {a b : Member} (ha : l[i]? = some a) (hb : l[j]? = some b) (hij : j < i) {t : Tp} (ht : t ∈ a.own) : t ∉ b.own := by
  intro htb
  obtain ⟨hi, rfl⟩ := List.getElem?_eq_some_iff.1 ha
  obtain ⟨hj, rfl⟩ := List.getElem?_eq_some_iff.1 hb
  have h1 := (owns_perm (del_perm (List.getElem?_eq_getElem hi))).nodup_iff.1 h
  rw [owns_cons] at h1
  refine (List.nodup_append.1 h1).2.2 t ht t (mem_owns.2 ⟨l[j], ?_, htb⟩) rfl
  unfold delM
  exact List.mem_append_left _ (List.mem_take_iff_getElem.2 ⟨j, by omega, rfl⟩)
attribute [local irreducible] RG CG EG WA Loc Det Alc CT Exit.then Exit.inBlock Code.wp bodyPost
set_option maxHeartbeats 1000000 in
theorem alone_ct {k : PH} {g : Group} {a : Option Addr} {c : Nat} (hl : Sl tMember k a c g.l) (hn : (owns g.l).Nodup) : CT Try.prog 10 #[.agg (g.cs a c).toArray] k (fun _ v => v = .bool true) := by
  refine ct_of_body (l := [_]) Try.func10 rfl Try.ntmps10 (by simp) (fun _ _ _ _ h => h) fun F hF0 hFm => ?_
  have b1 := hl.cap; have b2 := hl.max; unfold maxLen at b2
  repeat (first | refine cg_seq ?_ | refine cg_region ?_)
  refine rb rfl rfl rfl rfl (a_box rfl rfl) ?_; intro b3 k3 hb3 hN3 hle3 hk3
  have p3 := (Group.parts (cells_at (vs := g.cs a c) hk3 rfl)).2.2.2
  have hl := hl.le hle3
  repeat (first | refine cg_seq ?_ | refine cg_region ?_ | refine rg_nil ?_ | refine eg_then ?_ | refine qsp ?_ | refine cg_block ?_)
  refine cg_loop (fun (i : Nat) e k' => Le k3 k' ∧ i ≤ g.l.length ∧ e = [(1, .is (.pointer (some ⟨b3, 0, none⟩))), (3, .is (.int .i64 (i : Int)))])
    (fun i => g.l.length - i) 0 ⟨Le.refl _, Nat.zero_le _, rfl⟩ ⟨rfl, rfl, trivial⟩ ?_
  rintro i e k1 ⟨hle1, hi, rfl⟩
  have p3 := p3.le hle1
  have hl := hl.le hle1
  repeat (first | refine cg_seq ?_ | refine cg_region ?_ | refine rg_nil ?_ | refine eg_then ?_ | refine qsp ?_ | refine qsn ?_ | refine qsl ?_ | refine qsf ?_)
  refine cg_cond rfl (fun h => ?_) (fun h => ?_)
  rotate_left
  · repeat (first | refine cg_seq ?_ | refine cg_region ?_ | refine rg_nil ?_ | refine eg_then ?_ | refine qsp ?_ | refine cg_ret ?_ | refine cg_exit ?_ | refine eg_then_exit ?_ | refine eg_in_exit ?_)
    exact eg_return rfl rfl rfl
  have hlt : i < g.l.length := by simpa using h
  have hwi := List.getElem?_eq_getElem hlt
  obtain ⟨bx, ox, cx, ea, ⟨a0, c0, a1, c1, rfl, ⟨_, hoi⟩, _⟩, hcx⟩ := hl.el i g.l[i] hwi
  subst ea
  obtain ⟨mi, hmi⟩ : ∃ m, g.l[i] = m := ⟨_, rfl⟩
  rw [hmi] at hcx hoi hwi
  have m3 := (Member.parts hcx).2.2.2.1
  have b3' := hoi.cap; have b4' := hoi.max; unfold maxLen at b4'
  repeat (first | refine cg_seq ?_ | refine cg_region ?_ | refine rg_nil ?_ | refine eg_then ?_ | refine qsp ?_ | refine cg_skip ?_ | refine cg_block ?_)
  refine cg_loop (fun (j : Nat) e k' => Le k1 k' ∧ j ≤ i ∧ e = [(1, .is (.pointer (some ⟨b3, 0, none⟩))), (3, .is (.int .i64 (i : Int))), (4, .is (.int .i64 (j : Int)))])
    (fun j => i - j) 0 ⟨Le.refl _, Nat.zero_le _, rfl⟩ ⟨rfl, rfl, rfl, trivial⟩ ?_
  rintro j e k2 ⟨hle2, hj, rfl⟩
  repeat (first | refine cg_seq ?_ | refine cg_region ?_ | refine rg_nil ?_ | refine eg_then ?_ | refine qsp ?_)
  refine cg_cond rfl (fun h2 => ?_) (fun h2 => ?_)
  rotate_left
  · repeat (first | refine cg_region ?_ | refine rg_nil ?_ | refine eg_then ?_ | refine qsp ?_ | refine qsa ?_ | refine eg_in_normal ?_ | refine cg_exit ?_ | refine eg_then_exit ?_ | refine eg_in_exit ?_)
    exact eg_again (i + 1) _ ⟨hle1.trans hle2, hlt, rfl⟩ (by omega) ⟨rfl, rfl, trivial⟩
  have hlt2 : j < i := by simpa using h2
  have hl2 := hl.le hle2
  have hwj := List.getElem?_eq_getElem (show j < g.l.length by omega)
  obtain ⟨by', oy, cy, eb, ⟨e0, f0, e1, f1, rfl, ⟨_, hoj⟩, _⟩, hcy⟩ := hl2.el j _ hwj
  cases eb
  obtain ⟨mj, hmj⟩ : ∃ m, g.l[j] = m := ⟨_, rfl⟩
  rw [hmj] at hcy hoj hwj
  have p3 := p3.le hle2
  have m3 := m3.le hle2
  have n3 := (Member.parts hcy).2.2.2.1
  have hoi := hoi.le hle2
  repeat (first | refine cg_seq ?_ | refine cg_region ?_ | refine rg_nil ?_ | refine eg_then ?_ | refine qsp ?_ | refine cg_skip ?_ | refine cg_block ?_)
  refine cg_loop (fun (n : Nat) e k' => Le k2 k' ∧ n ≤ mi.own.length ∧ e = [(1, .is (.pointer (some ⟨b3, 0, none⟩))), (3, .is (.int .i64 (i : Int))), (4, .is (.int .i64 (j : Int))), (5, .is (.int .i64 (n : Int)))])
    (fun n => mi.own.length - n) 0 ⟨Le.refl _, Nat.zero_le _, rfl⟩ ⟨rfl, rfl, rfl, rfl, trivial⟩ ?_
  rintro n e k4 ⟨hle4, hn4, rfl⟩
  have p3 := p3.le hle4
  have m3 := m3.le hle4
  have n3 := n3.le hle4
  repeat (first | refine cg_seq ?_ | refine cg_region ?_ | refine rg_nil ?_ | refine eg_then ?_ | refine qsp ?_ | refine qsn ?_ | refine qsi ?_ | refine qsl ?_ | refine qsf ?_)
  refine cg_cond rfl (fun h3 => ?_) (fun h3 => ?_)
  rotate_left
  · repeat (first | refine cg_region ?_ | refine rg_nil ?_ | refine eg_then ?_ | refine qsp ?_ | refine qsa ?_ | refine eg_in_normal ?_ | refine cg_exit ?_ | refine eg_then_exit ?_ | refine eg_in_exit ?_)
    exact eg_again (j + 1) _ ⟨hle2.trans hle4, hlt2, rfl⟩ (by omega) ⟨rfl, rfl, rfl, trivial⟩
  have hlt3 : n < mi.own.length := by simpa using h3
  have hoi4 := hoi.le hle4
  obtain ⟨bz, oz, cz, ez, ⟨rfl, _⟩, hcz⟩ := hoi4.el n mi.own[n] (List.getElem?_eq_getElem hlt3)
  subst ez
  have hha := has_ct (hoj.le hle4) mi.own[n]
  rw [show decide (mi.own[n] ∈ mj.own) = false by
    rw [decide_eq_false_iff_not]
    exact apart_own hn hwi hwj hlt2 (List.getElem_mem hlt3)] at hha
  repeat (first | refine cg_seq ?_ | refine eg_then ?_ | refine cg_skip ?_ | refine cg_block ?_)
  refine cg_any (by kernel_rfl) rfl ?_
  repeat (first | refine qwp ?_ | refine qwi ?_ | refine qwl ?_ | refine qwg ?_ | refine qwf ?_)
  refine ws rfl (loc_call_is rfl rfl rfl rfl (hha)) ?_
  repeat (first | (refine wn rfl ?_; refine eg_then ?_))
  repeat (first | refine cg_region ?_ | refine rg_nil ?_ | refine eg_then ?_ | refine qsp ?_ | refine qsa ?_ | refine cg_cond_false rfl ?_ | refine cg_skip ?_ | refine eg_in_normal ?_)
  exact eg_again (n + 1) _ ⟨hle4, hlt3, rfl⟩ (by omega) ⟨rfl, rfl, rfl, rfl, trivial⟩
end Go.Wm

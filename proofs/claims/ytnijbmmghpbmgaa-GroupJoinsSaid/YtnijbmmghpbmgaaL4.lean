/-
  The walk of the law on whatever is done to a group. Conditions: that what is handed in reads as data.
-/
import Derived.Test.YtnijbmmghpbmgaaK7
import Derived.Test.YtnijbmmghpbmgaaL1
import Derived.Test.YtnijbmmghpbmgaaR1
import Derived.Test.YtnijbmmghpbmgaaN12
set_option linter.all false
namespace Go.Wm
open Go.RowKit Go.Proofs
theorem id_uniq {l : List Member} (h : RightP ordId memOk l) {a b : Member} (ha : a ∈ l) (hb : b ∈ l) (he : a.id = b.id) : a = b := by
  obtain ⟨h1, h2⟩ := right_all.1 h
  obtain ⟨i, hi, rfl⟩ := List.getElem_of_mem ha
  obtain ⟨j, hj, rfl⟩ := List.getElem_of_mem hb
  have hp := List.pairwise_iff_getElem.1 h2
  rcases Nat.lt_trichotomy i j with h3 | h3 | h3
  · have := hp i j hi hj h3
    have e : ordId l[i] l[j] = 0 := cmpStr_eq.2 he
    omega
  · subst h3; rfl
  · have := hp j i hj hi h3
    have e : ordId l[j] l[i] = 0 := cmpStr_eq.2 he.symm
    omega
end Go.Wm
namespace Go.Wm
open Go.RowKit Go.Proofs
def OwnB (B : Nat) (l : List Member) : Prop := ∀ y ∈ l, y.own.length ≤ B
theorem OwnB.sub {B : Nat} {l l' : List Member} (h : OwnB B l) (hs : l'.Sublist l) : OwnB B l' := fun y hy => h y (hs.subset hy)
theorem OwnB.unjoin {B : Nat} {l : List Member} (h : OwnB B l) : OwnB B (l.map unjoin) := fun y hy => by
  obtain ⟨x, hx, rfl⟩ := List.mem_map.1 hy
  exact h x hx
theorem OwnB.ins {B : Nat} {l : List Member} {x : Member} (h : OwnB B l) (hx : x.own.length ≤ B) : OwnB B (insM x l) := fun y hy => by
  rcases mem_ins.1 hy with rfl | hy
  · exact hx
  · exact h y hy
theorem OwnB.setAt {B : Nat} {l : List Member} (h : OwnB B l) (p : Nat) {f : Member → Member} (hf : ∀ y ∈ l, (f y).own.length ≤ B) : OwnB B (setAt p f l) := by
  unfold Wm.setAt
  split
  · rename_i m hm
    intro y hy
    rcases List.mem_or_eq_of_mem_set hy with hy | rfl
    · exact h y hy
    · exact hf m (List.mem_of_getElem? hm)
  · exact h
theorem isName_le {s : ByteArray} (h : isName s = true) : s.size ≤ 64 := by
  unfold isName at h
  simp only [Bool.and_eq_true, decide_eq_true_eq] at h
  exact h.2.2
theorem ChkG.ok {x : Group} (h : ChkG x) : x.ok := by
  refine ⟨Nat.le_trans (isName_le h.name) (by decide), ?_, ?_, trivial⟩
  · unfold I64; have h1 := h.gen0; have h2 := h.gen1; omega
  · unfold I64; rw [h.state]
    unfold stateG
    repeat' split
    all_goals omega
end Go.Wm
namespace Go.Wm
open Go.RowKit Go.Proofs
theorem bytes28 : Try.prog.bytesOf 28 = 96 := by kernel_rfl
theorem bytes9 : Try.prog.bytesOf 9 = 16 := by kernel_rfl
theorem bytes63 : Try.prog.bytesOf 63 = 32 := by kernel_rfl
theorem reach47 : reachBytes ≤ 140737488355328 := by decide
theorem Member.smallS {m : Member} (h : m.small) : m.subs.length * 16 ≤ 140737488355328 ∧ m.own.length * 32 ≤ 140737488355328 := by
  obtain ⟨_, _, ⟨h1, _⟩, ⟨h2, _⟩, _⟩ := h
  rw [bytes9] at h1
  rw [bytes63] at h2
  exact ⟨Nat.le_trans h1 reach47, Nat.le_trans h2 reach47⟩
theorem Group.smallG {g : Group} (h : g.small) : SmallG g := by
  obtain ⟨_, _, _, h1, h2⟩ := h
  rw [bytes28] at h1
  exact ⟨Nat.le_trans h1 reach47, fun m hm => Member.smallS (h2 m hm)⟩
attribute [local irreducible] RG CG EG WA Loc Det Alc CT Exit.then Exit.inBlock Code.wp bodyPost
end Go.Wm
namespace Go.Wm
open Go.RowKit Go.Proofs
theorem mem_eq (m m' : Member) : decide (m = m') = (decide (m.id = m'.id) && (decide (m.static = m'.static) && ((m.joined == m'.joined) && ((m.beat == m'.beat) && (decide (m.subs = m'.subs) && decide (m.own = m'.own)))))) := by
  rw [Bool.eq_iff_iff]
  cases m; cases m'
  simp
  intro _ _
  constructor
  · rintro ⟨h3, h4, h5, h6⟩; exact ⟨h5, h6, h3, h4⟩
  · rintro ⟨h5, h6, h3, h4⟩; exact ⟨h3, h4, h5, h6⟩
attribute [local irreducible] RG CG EG WA Loc Det Alc CT Exit.then Exit.inBlock Code.wp bodyPost
set_option maxHeartbeats 1000000 in
theorem sameMem_ct {k : PH} {m m' : Member} {cm cm' : List Value} (hm : tMember.rep k cm m) (hm' : tMember.rep k cm' m') : CT Try.prog 64 #[.agg cm.toArray, .agg cm'.toArray] k (fun _ v => v = .bool (decide (m = m'))) := by
  obtain ⟨a0, c0, a1, c1, rfl, ⟨hs, ho⟩, hok⟩ := hm
  obtain ⟨d0, e0, d1, e1, rfl, ⟨hs', ho'⟩, hok'⟩ := hm'
  refine ct_of_body (l := [_, _]) Try.func64 rfl Try.ntmps64 (by simp) (fun _ _ _ _ h => h) fun F hF0 hFm => ?_
  rw [mem_eq]
  repeat (first | refine cg_seq ?_ | refine cg_region ?_)
  refine rb rfl rfl rfl rfl (a_box rfl rfl) ?_; intro b5 k5 hb5 hN5 hle5 hk5
  skip
  refine rb rfl rfl rfl rfl (a_box rfl rfl) ?_; intro b6 k6 hb6 hN6 hle6 hk6
  obtain ⟨p0, p1, p2, p3, p4, p5⟩ := Member.parts ((cells_at (vs := m.cs a0 c0 a1 c1) hk5 rfl).le hle6)
  obtain ⟨q0, q1, q2, q3, q4, q5⟩ := Member.parts (cells_at (vs := m'.cs d0 e0 d1 e1) hk6 rfl)
  have hss := sameSubs_ct (hs.le (hle5.trans hle6)) (hs'.le (hle5.trans hle6))
  have hoo := tps_ct (ho.le (hle5.trans hle6)) (ho'.le (hle5.trans hle6))
  repeat (first | refine cg_seq ?_ | refine cg_region ?_ | refine rg_nil ?_ | refine eg_then ?_ | refine qsp ?_ | refine qsl ?_ | refine qsf ?_)
  cases z1 : decide (m.id = m'.id)
  · repeat (first | refine rg_nil ?_ | refine eg_then ?_ | refine qsp ?_ | refine qso ?_ | refine cg_ret ?_)
    exact eg_return rfl rfl rfl
  repeat (first | refine qsp ?_ | refine qsl ?_ | refine qsf ?_)
  cases z2 : decide (m.static = m'.static)
  · repeat (first | refine rg_nil ?_ | refine eg_then ?_ | refine qsp ?_ | refine qso ?_ | refine cg_ret ?_)
    exact eg_return rfl rfl rfl
  repeat (first | refine qsl ?_ | refine qsf ?_)
  refine rs rfl rfl (loc_det rfl (d_eqb rfl rfl rfl)) ?_
  cases z3 : (m.joined == m'.joined)
  · repeat (first | refine rg_nil ?_ | refine eg_then ?_ | refine qsp ?_ | refine qso ?_ | refine cg_ret ?_)
    exact eg_return rfl rfl rfl
  repeat (first | refine qsp ?_ | refine qsl ?_ | refine qsf ?_)
  cases z4 : (m.beat == m'.beat)
  · repeat (first | refine rg_nil ?_ | refine eg_then ?_ | refine qsp ?_ | refine qso ?_ | refine cg_ret ?_)
    exact eg_return rfl rfl rfl
  repeat (first | refine qsl ?_ | refine qsf ?_)
  refine rs rfl rfl (loc_call_is rfl rfl rfl rfl (hss)) ?_
  cases z5 : decide (m.subs = m'.subs)
  · repeat (first | refine rg_nil ?_ | refine eg_then ?_ | refine qsp ?_ | refine qso ?_ | refine cg_ret ?_)
    exact eg_return rfl rfl rfl
  repeat (first | refine qsp ?_ | refine qsl ?_ | refine qsf ?_)
  refine rs rfl rfl (loc_call_is rfl rfl rfl rfl (hoo)) ?_
  repeat (first | refine rg_nil ?_ | refine eg_then ?_ | refine qsp ?_ | refine cg_ret ?_)
  exact eg_return rfl rfl rfl
set_option maxHeartbeats 1000000 in
theorem sameG_ct {k : PH} {g g' : Group} {a a' : Option Addr} {c c' : Nat} (hl : Sl tMember k a c g.l) (hl' : Sl tMember k a' c' g'.l) : CT Try.prog 16 #[.agg (g.cs a c).toArray, .agg (g'.cs a' c').toArray] k (fun _ v => v = .bool (decide (g = g'))) := by
  refine ct_of_body (l := [_, _]) Try.func16 rfl Try.ntmps16 (by simp) (fun _ _ _ _ h => h) fun F hF0 hFm => ?_
  have b1 := hl.cap; have b2 := hl.max; have b3 := hl'.cap; have b4 := hl'.max; unfold maxLen at b2 b4
  repeat (first | refine cg_seq ?_ | refine cg_region ?_)
  refine rb rfl rfl rfl rfl (a_box rfl rfl) ?_; intro b5 k5 hb5 hN5 hle5 hk5
  skip
  refine rb rfl rfl rfl rfl (a_box rfl rfl) ?_; intro b6 k6 hb6 hN6 hle6 hk6
  obtain ⟨p0, p1, p2, p3⟩ := Group.parts ((cells_at (vs := g.cs a c) hk5 rfl).le hle6)
  obtain ⟨q0, q1, q2, q3⟩ := Group.parts (cells_at (vs := g'.cs a' c') hk6 rfl)
  have no : ∀ P : Prop, (g = g' → P) → ¬ P → decide (g = g') = false := fun P h hn => decide_eq_false fun e => hn (h e)
  repeat (first | refine cg_seq ?_ | refine cg_region ?_ | refine rg_nil ?_ | refine eg_then ?_ | refine qsp ?_ | refine qsl ?_ | refine qsf ?_)
  cases z1 : decide (g.name = g'.name)
  · repeat (first | refine cg_seq ?_ | refine cg_region ?_ | refine rg_nil ?_ | refine eg_then ?_ | refine qsp ?_ | refine qso ?_ | refine cg_cond_true rfl ?_ | refine cg_ret ?_ | refine eg_then_ret ?_)
    refine eg_return rfl rfl ?_
    rw [no (g.name = g'.name) (fun e => by rw [e]) (of_decide_eq_false z1)]
  repeat (first | refine qsp ?_ | refine qsl ?_ | refine qsf ?_)
  cases z2 : (g.gen == g'.gen)
  · rw [show (g.gen != g'.gen) = true by simp [bne, z2]]
    repeat (first | refine cg_seq ?_ | refine cg_region ?_ | refine rg_nil ?_ | refine eg_then ?_ | refine qsp ?_ | refine qso ?_ | refine cg_cond_true rfl ?_ | refine cg_ret ?_ | refine eg_then_ret ?_)
    refine eg_return rfl rfl ?_
    rw [no (g.gen = g'.gen) (fun e => by rw [e]) (by simpa using z2)]
  rw [show (g.gen != g'.gen) = false by simp [bne, z2]]
  repeat (first | refine qsp ?_ | refine qsl ?_ | refine qsf ?_)
  cases z3 : (g.state == g'.state)
  · rw [show (g.state != g'.state) = true by simp [bne, z3]]
    repeat (first | refine cg_seq ?_ | refine cg_region ?_ | refine rg_nil ?_ | refine eg_then ?_ | refine qsp ?_ | refine qso ?_ | refine cg_cond_true rfl ?_ | refine cg_ret ?_ | refine eg_then_ret ?_)
    refine eg_return rfl rfl ?_
    rw [no (g.state = g'.state) (fun e => by rw [e]) (by simpa using z3)]
  rw [show (g.state != g'.state) = false by simp [bne, z3]]
  repeat (first | refine rg_nil ?_ | refine eg_then ?_ | refine qsp ?_ | refine qsn ?_ | refine qsl ?_ | refine qsf ?_)
  refine cg_cond rfl (fun h => ?_) (fun h => ?_)
  · repeat (first | refine cg_seq ?_ | refine cg_region ?_ | refine rg_nil ?_ | refine eg_then ?_ | refine qsp ?_ | refine cg_ret ?_ | refine eg_then_ret ?_)
    refine eg_return rfl rfl ?_
    rw [no (g.l.length = g'.l.length) (fun e => by rw [e]) (by simp at h; omega)]
  have heq : g.name = g'.name ∧ g.gen = g'.gen ∧ g.state = g'.state ∧ g.l.length = g'.l.length := by
    refine ⟨of_decide_eq_true z1, by simpa using z2, by simpa using z3, ?_⟩
    simp at h; omega
  have hlen := heq.2.2.2
  repeat (first | refine cg_seq ?_ | refine cg_region ?_ | refine rg_nil ?_ | refine eg_then ?_ | refine qsp ?_ | refine cg_skip ?_ | refine cg_block ?_)
  refine cg_loop (fun (i : Nat) e k' => Le k6 k' ∧ i ≤ g.l.length ∧ (∀ j, j < i → g.l[j]? = g'.l[j]?) ∧ e = [(2, .is (.pointer (some ⟨b5, 0, none⟩))), (3, .is (.pointer (some ⟨b6, 0, none⟩))), (5, .is (.int .i64 (i : Int)))])
    (fun i => g.l.length - i) 0 ⟨Le.refl _, Nat.zero_le _, fun j hj => by omega, rfl⟩ ⟨rfl, rfl, rfl, trivial⟩ ?_
  rintro i e k1 ⟨hle1, hi, hsm, rfl⟩
  have p3 := p3.le hle1
  have q3 := q3.le hle1
  repeat (first | refine cg_seq ?_ | refine cg_region ?_ | refine rg_nil ?_ | refine eg_then ?_ | refine qsp ?_ | refine qsn ?_ | refine qsl ?_ | refine qsf ?_)
  refine cg_cond rfl (fun h => ?_) (fun h => ?_)
  · have hlt : i < g.l.length := by simpa using h
    have hlt2 : i < g'.l.length := by omega
    have hk := hle5.trans (hle6.trans hle1)
    obtain ⟨bx, ox, cx, ea, hrep, hcx⟩ := hl.el i g.l[i] (List.getElem?_eq_getElem hlt)
    obtain ⟨by', oy, cy, eb, hrep', hcy⟩ := hl'.el i g'.l[i] (List.getElem?_eq_getElem hlt2)
    subst ea
    subst eb
    have hrep := tMember.mono hk hrep
    have hrep' := tMember.mono hk hrep'
    have hcx := hcx.le hk
    have hcy := hcy.le hk
    have hcl := tMember.len hrep
    have hcl' := tMember.len hrep'
    have hs := sameMem_ct hrep hrep'
    repeat (first | refine cg_seq ?_ | refine eg_then ?_ | refine cg_skip ?_ | refine cg_block ?_)
    refine cg_any (by kernel_rfl) rfl ?_
    repeat (first | refine qwp ?_ | refine qwi ?_ | refine qwl ?_ | refine qwf ?_)
    refine ws rfl (loc_det rfl (d_load_agg (vs := cx) rfl rfl rfl hcl hcx)) ?_
    repeat (first | refine qwp ?_ | refine qwi ?_ | refine qwl ?_ | refine qwf ?_)
    refine ws rfl (loc_det rfl (d_load_agg (vs := cy) rfl rfl rfl hcl' hcy)) ?_
    skip
    refine ws rfl (loc_call_is rfl rfl rfl rfl (hs)) ?_
    repeat (first | refine qwp ?_ | (refine wn rfl ?_; refine eg_then ?_))
    cases q : decide (g.l[i] = g'.l[i])
    · repeat (first | refine cg_seq ?_ | refine cg_region ?_ | refine rg_nil ?_ | refine eg_then ?_ | refine qsp ?_ | refine cg_cond_true rfl ?_ | refine cg_ret ?_ | refine eg_then_ret ?_ | refine eg_in_ret ?_)
      refine eg_return rfl rfl ?_
      rw [no (g.l[i] = g'.l[i]) (fun e => by subst e; rfl) (of_decide_eq_false q)]
    · repeat (first | refine cg_region ?_ | refine rg_nil ?_ | refine eg_then ?_ | refine qsp ?_ | refine qsa ?_ | refine cg_cond_false rfl ?_ | refine cg_skip ?_ | refine eg_in_normal ?_)
      refine eg_again (i + 1) _ ⟨hle1, hlt, fun j hj => ?_, rfl⟩ (by omega) ⟨rfl, rfl, rfl, trivial⟩
      by_cases hji : j = i
      · subst hji
        rw [List.getElem?_eq_getElem hlt, List.getElem?_eq_getElem hlt2, of_decide_eq_true q]
      · exact hsm j (by omega)
  · repeat (first | refine cg_seq ?_ | refine cg_region ?_ | refine rg_nil ?_ | refine eg_then ?_ | refine qsp ?_ | refine cg_ret ?_ | refine cg_exit ?_ | refine eg_then_exit ?_ | refine eg_in_exit ?_)
    refine eg_return rfl rfl ?_
    have hie : i = g.l.length := by simp at h; omega
    have hll : g.l = g'.l := by
      apply List.ext_getElem?
      intro j
      by_cases hj : j < g.l.length
      · exact hsm j (by omega)
      · rw [List.getElem?_eq_none (by omega), List.getElem?_eq_none (by omega)]
    have : g = g' := by
      cases g; cases g'
      simp only at heq hll
      simp [heq, hll]
    simp [this]
end Go.Wm
namespace Go.Wm
open Go.RowKit Go.Proofs
def roundW (g : Group) : Group := { g with gen := IntKind.i64.wrap (g.gen + 1), l := g.l.map unjoin }
def lessW (g : Group) (f : Member → Bool) (e : Int) : Group × Int :=
  if (decide ((g.l.filter fun m => !f m).length < g.l.length) && (decide (0 < (g.l.filter fun m => !f m).length) && (g.state == 2))) = true
  then toldG (roundW { g with l := g.l.filter fun m => !f m }) (wantE e (decide (g.gen < 1048576)) 2)
  else toldG { g with l := g.l.filter fun m => !f m } e
section
variable {P : Program} {o : Oper} {e : Env} {k : PH}
end
attribute [local irreducible] RG CG EG WA Loc Det Alc CT Exit.then Exit.inBlock Code.wp bodyPost
end Go.Wm
namespace Go.Wm
open Go.RowKit Go.Proofs
theorem KeepAt0.add {N : Nat} {KK k : PH} {bk b : Nat} {v : Value} {g : Group} {e : Int} {o : Obj} (h : KeepAt0 N KK k bk v g e) (hb : k b = some o) (hn : ¬ b = bk) (hv : v.ownBlock ≠ some b) : KeepAt0 N (upd KK b o) k bk v g e := by
  have hKK : Le KK (upd KK b o) := fun c ob hc => by
    by_cases e : c = b
    · subst e
      have := h.le _ _ hc
      rw [hb] at this
      rw [upd_same]; exact this
    · rw [upd_other e]; exact hc
  obtain ⟨css, u1, u2⟩ := h.row
  refine ⟨h.at', h.nb, upd_le h.le hb, (upd_other fun e => hn e.symm).trans h.kb, fun gg hgg => ?_, css, u1.le hKK, u2⟩
  rw [upd_other (fun e => hv (by rw [← e]; exact hgg))]
  exact h.ap gg hgg
def lateW (now most : Int) (m : Member) : Bool := decide (IntKind.i64.wrap (m.beat + most) < now)
attribute [local irreducible] RG CG EG WA Loc Det Alc CT Exit.then Exit.inBlock Code.wp bodyPost
end Go.Wm
namespace Go.Wm
open Go.RowKit Go.Proofs
/-- What is so behind anything that is done. -/
structure DoneOk (B : Nat) (g : Group) (q : Group × Int) : Prop where
  no : q.2 ≠ 0 → q.1 = noG
  chk : q.2 = 0 → ChkG q.1
  lo : q.2 = 0 → g.gen ≤ q.1.gen
  hi : q.2 = 0 → q.1.gen ≤ g.gen + 1
  stay : q.2 = 0 → q.1.gen = g.gen → g.state = 2 → q.1.state ≠ 2 → q.1.l.length = 0
  own : OwnB B q.1.l
theorem DoneOk.bad {B : Nat} {g : Group} {e : Int} (h : e ≠ 0) : DoneOk B g (noG, e) := ⟨fun _ => rfl, fun h0 => absurd h0 h, fun h0 => absurd h0 h, fun h0 => absurd h0 h, fun h0 => absurd h0 h, fun y hy => by cases hy⟩
end Go.Wm
namespace Go.Wm
open Go.RowKit Go.Proofs
open Classical in
/-- Sync, as a function of what it is handed. -/
noncomputable def syncF (g : Group) (id : ByteArray) (gen now : Int) (tps : List Tp) : Group × List Tp × Int :=
  if h : ∃ p : Group × List Tp × Int, SyncR g id gen now tps p.1 p.2.1 p.2.2 then h.choose else (noG, [], 0)
noncomputable def doneF (g : Group) (o : GOp) (tps : List Tp) : Group × Int :=
  if o.kind = 1 then joinG g o.m o.now else
  if o.kind = 2 then ((syncF g o.m.id (IntKind.i64.wrap (g.gen - o.gen)) o.now tps).1, (syncF g o.m.id (IntKind.i64.wrap (g.gen - o.gen)) o.now tps).2.2) else
  if o.kind = 3 then beatG g o.m.id (IntKind.i64.wrap (g.gen - o.gen)) o.now else
  if o.kind = 4 then leaveG g o.m.id else tickG g o.now o.most
def DoneV (B : Nat) (g : Group) (q : Group × Int) : PH → Value → Prop := fun k v => DoneOk B g q ∧ GrpV q k v
theorem DoneV.mono {B : Nat} {g : Group} {q : Group × Int} : ∀ k k' v, Le k k' → DoneV B g q k v → DoneV B g q k' v := fun k k' v hle ⟨h1, h2⟩ => ⟨h1, GrpV.mono _ _ _ hle h2⟩
attribute [local irreducible] RG CG EG WA Loc Det Alc CT Exit.then Exit.inBlock Code.wp bodyPost
end Go.Wm

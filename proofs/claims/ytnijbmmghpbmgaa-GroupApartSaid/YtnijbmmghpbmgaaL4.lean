/-
  The walk of the law on whatever is done to a group. Conditions: that what is handed in reads as data.
-/
import Derived.Test.YtnijbmmghpbmgaaL2
import Derived.Test.YtnijbmmghpbmgaaR1
import Derived.Test.YtnijbmmghpbmgaaN14
import Derived.Test.YtnijbmmghpbmgaaK13
set_option linter.all false
namespace Go.Wm
open Go.RowKit Go.Proofs
theorem d_subW {P : Program} {o : Oper} {e : Env} {k : PH} {t t' : TypeId} {x y : Operand} {a b : Int} (hop : o.op = .binOp .sub t x y t') (hx : opv e x = some (.int .i64 a)) (hy : opv e y = some (.int .i64 b)) : Det P e k o (.int .i64 (IntKind.i64.wrap (a - b))) := by
  intro ev w hev _
  rw [hop] at hev
  simp [execOp, hop, hev x (by simp [Op.operands]) _ hx, hev y (by simp [Op.operands]) _ hy, eqGuard, binOp, Op.intArith]
open Classical in
/-- Sync, as a function of what it is handed. -/
noncomputable def syncF (g : Group) (id : ByteArray) (gen now : Int) (tps : List Tp) : Group × List Tp × Int :=
  if h : ∃ p : Group × List Tp × Int, SyncR g id gen now tps p.1 p.2.1 p.2.2 then h.choose else (noG, [], 0)
theorem syncF_eq {g x : Group} {id : ByteArray} {gen now : Int} {tps own : List Tp} {e : Int} (h : SyncR g id gen now tps x own e) : syncF g id gen now tps = (x, own, e) := by
  have hex : ∃ p : Group × List Tp × Int, SyncR g id gen now tps p.1 p.2.1 p.2.2 := ⟨(x, own, e), h⟩
  unfold syncF
  rw [dif_pos hex]
  obtain ⟨h1, h2, h3⟩ := hex.choose_spec.same h
  exact Prod.ext h1 (Prod.ext h2 h3)
noncomputable def doneF (g : Group) (o : GOp) (tps : List Tp) : Group × Int :=
  if o.kind = 1 then joinG g o.m o.now else
  if o.kind = 2 then ((syncF g o.m.id (IntKind.i64.wrap (g.gen - o.gen)) o.now tps).1, (syncF g o.m.id (IntKind.i64.wrap (g.gen - o.gen)) o.now tps).2.2) else
  if o.kind = 3 then beatG g o.m.id (IntKind.i64.wrap (g.gen - o.gen)) o.now else
  if o.kind = 4 then leaveG g o.m.id else tickG g o.now o.most
def DoneV (B : Nat) (g : Group) (q : Group × Int) : PH → Value → Prop := fun k v => DoneOk B g q ∧ GrpV q k v
theorem DoneV.mono {B : Nat} {g : Group} {q : Group × Int} : ∀ k k' v, Le k k' → DoneV B g q k v → DoneV B g q k' v := fun k k' v hle ⟨h1, h2⟩ => ⟨h1, GrpV.mono _ _ _ hle h2⟩
theorem few_join {m : Member} (h : fewM m = true) : m.subs.length * 16 ≤ 140737488355328 ∧ m.own.length * 32 ≤ 140737488355328 := by
  unfold fewM at h
  have h := of_decide_eq_true h
  have h1 := h.2.2.2.2.1
  have h2 := h.2.2.2.2.2
  exact ⟨by omega, by omega⟩
theorem apart_own {l : List Member} (h : (owns l).Nodup) {i j : Nat} {a b : Member} (ha : l[i]? = some a) (hb : l[j]? = some b) (hij : j < i) {t : Tp} (ht : t ∈ a.own) : t ∉ b.own := by
  intro htb
  obtain ⟨hi, rfl⟩ := List.getElem?_eq_some_iff.1 ha
  obtain ⟨hj, rfl⟩ := List.getElem?_eq_some_iff.1 hb
  have h1 := (owns_perm (del_perm (List.getElem?_eq_getElem hi))).nodup_iff.1 h
  rw [owns_cons] at h1
  refine (List.nodup_append.1 h1).2.2 t ht t (mem_owns.2 ⟨l[j], ?_, htb⟩) rfl
  unfold delM
  exact List.mem_append_left _ (List.mem_take_iff_getElem.2 ⟨j, by omega, rfl⟩)
attribute [local irreducible] RG CG EG WA Loc Det Alc CT Exit.then Exit.inBlock Code.wp bodyPost
set_option maxHeartbeats 1000000 in
theorem alone_ct {k : PH} {g : Group} {a : Option Addr} {c : Nat} (hl : Sl tMember k a c g.l) (hn : (owns g.l).Nodup) : CT Try.prog 27 #[.agg (g.cs a c).toArray] k (fun _ v => v = .bool true) := by
  refine ct_of_body (l := [_]) Try.func27 rfl Try.ntmps27 (by simp) (fun _ _ _ _ h => h) fun F hF0 hFm => ?_
  have b1 := hl.cap; have b2 := hl.max; unfold maxLen at b2
  repeat (first | refine cg_seq ?_ | refine cg_region ?_)
  refine rb rfl rfl rfl rfl (a_box rfl rfl) ?_; intro b3 k3 hb3 hN3 hle3 hk3
  have p3 := (Group.parts (cells_at (vs := g.cs a c) hk3 rfl)).2.2.2
  have hl := hl.le hle3
  repeat (first | refine cg_seq ?_ | refine cg_region ?_ | refine rg_nil ?_ | refine eg_then ?_ | refine qsp ?_ | refine cg_block ?_)
  refine cg_loop (fun (i : Nat) e k' => Le k3 k' ∧ i ≤ g.l.length ∧ e = [(1, .is (.pointer (some ⟨b3, 0, none⟩))), (3, .is (.int .i64 (i : Int)))])
    (fun i => g.l.length - i) 0 ⟨Le.refl _, Nat.zero_le _, rfl⟩ ⟨rfl, rfl, trivial⟩ ?_
  rintro i e k1 ⟨hle1, hi, rfl⟩
  have p3 := p3.le hle1
  have hl := hl.le hle1
  repeat (first | refine cg_seq ?_ | refine cg_region ?_ | refine rg_nil ?_ | refine eg_then ?_ | refine qsp ?_ | refine qsn ?_ | refine qsl ?_ | refine qsf ?_)
  refine cg_cond rfl (fun h => ?_) (fun h => ?_)
  rotate_left
  · repeat (first | refine cg_seq ?_ | refine cg_region ?_ | refine rg_nil ?_ | refine eg_then ?_ | refine qsp ?_ | refine cg_ret ?_ | refine cg_exit ?_ | refine eg_then_exit ?_ | refine eg_in_exit ?_)
    exact eg_return rfl rfl rfl
  have hlt : i < g.l.length := by simpa using h
  have hwi := List.getElem?_eq_getElem hlt
  obtain ⟨bx, ox, cx, ea, ⟨a0, c0, a1, c1, rfl, ⟨_, hoi⟩, _⟩, hcx⟩ := hl.el i g.l[i] hwi
  subst ea
  obtain ⟨mi, hmi⟩ : ∃ m, g.l[i] = m := ⟨_, rfl⟩
  rw [hmi] at hcx hoi hwi
  have m3 := (Member.parts hcx).2.2.2.1
  have b3' := hoi.cap; have b4' := hoi.max; unfold maxLen at b4'
  repeat (first | refine cg_seq ?_ | refine cg_region ?_ | refine rg_nil ?_ | refine eg_then ?_ | refine qsp ?_ | refine cg_skip ?_ | refine cg_block ?_)
  refine cg_loop (fun (j : Nat) e k' => Le k1 k' ∧ j ≤ i ∧ e = [(1, .is (.pointer (some ⟨b3, 0, none⟩))), (3, .is (.int .i64 (i : Int))), (4, .is (.int .i64 (j : Int)))])
    (fun j => i - j) 0 ⟨Le.refl _, Nat.zero_le _, rfl⟩ ⟨rfl, rfl, rfl, trivial⟩ ?_
  rintro j e k2 ⟨hle2, hj, rfl⟩
  repeat (first | refine cg_seq ?_ | refine cg_region ?_ | refine rg_nil ?_ | refine eg_then ?_ | refine qsp ?_)
  refine cg_cond rfl (fun h2 => ?_) (fun h2 => ?_)
  rotate_left
  · repeat (first | refine cg_region ?_ | refine rg_nil ?_ | refine eg_then ?_ | refine qsp ?_ | refine qsa ?_ | refine eg_in_normal ?_ | refine cg_exit ?_ | refine eg_then_exit ?_ | refine eg_in_exit ?_)
    exact eg_again (i + 1) _ ⟨hle1.trans hle2, hlt, rfl⟩ (by omega) ⟨rfl, rfl, trivial⟩
  have hlt2 : j < i := by simpa using h2
  have hl2 := hl.le hle2
  have hwj := List.getElem?_eq_getElem (show j < g.l.length by omega)
  obtain ⟨by', oy, cy, eb, ⟨e0, f0, e1, f1, rfl, ⟨_, hoj⟩, _⟩, hcy⟩ := hl2.el j _ hwj
  cases eb
  obtain ⟨mj, hmj⟩ : ∃ m, g.l[j] = m := ⟨_, rfl⟩
  rw [hmj] at hcy hoj hwj
  have p3 := p3.le hle2
  have m3 := m3.le hle2
  have n3 := (Member.parts hcy).2.2.2.1
  have hoi := hoi.le hle2
  repeat (first | refine cg_seq ?_ | refine cg_region ?_ | refine rg_nil ?_ | refine eg_then ?_ | refine qsp ?_ | refine cg_skip ?_ | refine cg_block ?_)
  refine cg_loop (fun (n : Nat) e k' => Le k2 k' ∧ n ≤ mi.own.length ∧ e = [(1, .is (.pointer (some ⟨b3, 0, none⟩))), (3, .is (.int .i64 (i : Int))), (4, .is (.int .i64 (j : Int))), (5, .is (.int .i64 (n : Int)))])
    (fun n => mi.own.length - n) 0 ⟨Le.refl _, Nat.zero_le _, rfl⟩ ⟨rfl, rfl, rfl, rfl, trivial⟩ ?_
  rintro n e k4 ⟨hle4, hn4, rfl⟩
  have p3 := p3.le hle4
  have m3 := m3.le hle4
  have n3 := n3.le hle4
  repeat (first | refine cg_seq ?_ | refine cg_region ?_ | refine rg_nil ?_ | refine eg_then ?_ | refine qsp ?_ | refine qsn ?_ | refine qsi ?_ | refine qsl ?_ | refine qsf ?_)
  refine cg_cond rfl (fun h3 => ?_) (fun h3 => ?_)
  rotate_left
  · repeat (first | refine cg_region ?_ | refine rg_nil ?_ | refine eg_then ?_ | refine qsp ?_ | refine qsa ?_ | refine eg_in_normal ?_ | refine cg_exit ?_ | refine eg_then_exit ?_ | refine eg_in_exit ?_)
    exact eg_again (j + 1) _ ⟨hle2.trans hle4, hlt2, rfl⟩ (by omega) ⟨rfl, rfl, rfl, trivial⟩
  have hlt3 : n < mi.own.length := by simpa using h3
  have hoi4 := hoi.le hle4
  obtain ⟨bz, oz, cz, ez, ⟨rfl, _⟩, hcz⟩ := hoi4.el n mi.own[n] (List.getElem?_eq_getElem hlt3)
  subst ez
  have hha := has_ct (hoj.le hle4) mi.own[n]
  rw [show decide (mi.own[n] ∈ mj.own) = false by
    rw [decide_eq_false_iff_not]
    exact apart_own hn hwi hwj hlt2 (List.getElem_mem hlt3)] at hha
  repeat (first | refine cg_seq ?_ | refine eg_then ?_ | refine cg_skip ?_ | refine cg_block ?_)
  refine cg_any (by kernel_rfl) rfl ?_
  repeat (first | refine qwp ?_ | refine qwi ?_ | refine qwl ?_ | refine qwg ?_ | refine qwf ?_)
  refine ws rfl (loc_call_is rfl rfl rfl rfl (hha)) ?_
  repeat (first | (refine wn rfl ?_; refine eg_then ?_))
  repeat (first | refine cg_region ?_ | refine rg_nil ?_ | refine eg_then ?_ | refine qsp ?_ | refine qsa ?_ | refine cg_cond_false rfl ?_ | refine cg_skip ?_ | refine eg_in_normal ?_)
  exact eg_again (n + 1) _ ⟨hle4, hlt3, rfl⟩ (by omega) ⟨rfl, rfl, rfl, rfl, trivial⟩
set_option maxHeartbeats 1000000 in
theorem fewOps_ct {k : PH} {a : Option Addr} {c : Nat} {l : List GOp} (hl : Sl tGOp k a c l) : CT Try.prog 25 #[.slice a l.length c] k (fun _ v => ∃ b, v = .bool b ∧ (b = true → l.length ≤ 30 ∧ ∀ o ∈ l, fewM o.m = true)) := by
  refine ct_of_body (l := [_]) Try.func25 rfl Try.ntmps25 (by simp) (fun _ _ _ _ h => h) fun F hF0 hFm => ?_
  have b1 := hl.cap; have b2 := hl.max; unfold maxLen at b2
  repeat (first | refine cg_seq ?_ | refine cg_region ?_ | refine rg_nil ?_ | refine eg_then ?_ | refine qsp ?_ | refine cg_block ?_)
  refine cg_loop (fun (i : Nat) e k' => Le k k' ∧ i ≤ l.length ∧ i ≤ 30 ∧ (∀ o ∈ l.take i, fewM o.m = true) ∧ e = [(0, .is (.slice a l.length c)), (3, .is (.int .i64 (i : Int)))])
    (fun i => l.length - i) 0 ⟨Le.refl _, Nat.zero_le _, Nat.zero_le _, by simp, rfl⟩ ⟨rfl, rfl, trivial⟩ ?_
  rintro i e k1 ⟨hle1, hi, h30, hno, rfl⟩
  repeat (first | refine cg_seq ?_ | refine cg_region ?_ | refine qsp ?_ | refine qsn ?_)
  by_cases hlt : i < l.length ∧ i < 30
  · obtain ⟨hlt, hlt2⟩ := hlt
    rw [show decide ((i : Int) < (l.length : Int)) = true by simp; exact hlt]
    repeat (first | refine rg_nil ?_ | refine eg_then ?_ | refine qsp ?_)
    rw [show decide ((i : Int) < 30) = true by simp; omega]
    repeat (first | refine cg_seq ?_ | refine cg_region ?_ | refine eg_then ?_ | refine qsp ?_ | refine cg_cond_true rfl ?_ | refine cg_skip ?_ | refine cg_block ?_)
    obtain ⟨bx, ox, cx, ea, ⟨a0, c0, a1, c1, rfl, ⟨hs, ho⟩, hok⟩, hcx⟩ := (hl.le hle1).el i l[i] (List.getElem?_eq_getElem hlt)
    subst ea
    have cm := (GOp.parts hcx).2.1
    have hf := fewM_ct (m := l[i].m) ⟨a0, c0, a1, c1, rfl, ⟨hs, ho⟩, hok.2.1⟩
    repeat (first | refine qsi ?_ | refine qsg ?_ | refine qsf ?_)
    refine rs rfl rfl (loc_call_is rfl rfl rfl rfl (hf)) ?_
    repeat (first | refine cg_seq ?_ | refine cg_region ?_ | refine rg_nil ?_ | refine eg_then ?_ | refine qsp ?_)
    cases q : fewM l[i].m
    · repeat (first | refine cg_seq ?_ | refine cg_region ?_ | refine rg_nil ?_ | refine eg_then ?_ | refine qsp ?_ | refine cg_cond_true rfl ?_ | refine cg_ret ?_ | refine eg_then_ret ?_ | refine eg_in_ret ?_)
      exact eg_return rfl rfl ⟨false, rfl, fun h => by cases h⟩
    · repeat (first | refine cg_region ?_ | refine rg_nil ?_ | refine eg_then ?_ | refine qsp ?_ | refine qsa ?_ | refine cg_cond_false rfl ?_ | refine cg_skip ?_ | refine eg_in_normal ?_)
      refine eg_again (i + 1) _ ⟨hle1, hlt, hlt2, fun x hx => ?_, rfl⟩ (by omega) ⟨rfl, rfl, trivial⟩
      rw [List.take_succ_eq_append_getElem hlt] at hx
      rcases List.mem_append.1 hx with hx | hx
      · exact hno x hx
      · simp at hx; rw [hx]; exact q
  have hend : (decide ((l.length : Int) ≤ 30) = true → l.length ≤ 30 ∧ ∀ o ∈ l, fewM o.m = true) := fun h => by
    have h : l.length ≤ 30 := by simp at h; omega
    have : i = l.length := by omega
    rw [this, List.take_length] at hno
    exact ⟨h, hno⟩
  by_cases h : i < l.length
  · rw [show decide ((i : Int) < (l.length : Int)) = true by simp; exact h]
    repeat (first | refine rg_nil ?_ | refine eg_then ?_ | refine qsp ?_)
    rw [show decide ((i : Int) < 30) = false by simp; omega]
    repeat (first | refine cg_seq ?_ | refine cg_region ?_ | refine rg_nil ?_ | refine eg_then ?_ | refine qsp ?_ | refine qsn ?_ | refine cg_cond_false rfl ?_ | refine cg_ret ?_ | refine cg_exit ?_ | refine eg_then_exit ?_ | refine eg_in_exit ?_)
    exact eg_return rfl rfl ⟨_, rfl, hend⟩
  · rw [show decide ((i : Int) < (l.length : Int)) = false by simp; omega]
    repeat (first | refine cg_seq ?_ | refine cg_region ?_ | refine rg_nil ?_ | refine eg_then ?_ | refine qsp ?_ | refine qsn ?_ | refine qso ?_ | refine cg_cond_false rfl ?_ | refine cg_ret ?_ | refine cg_exit ?_ | refine eg_then_exit ?_ | refine eg_in_exit ?_)
    exact eg_return rfl rfl ⟨_, rfl, hend⟩
set_option maxHeartbeats 4000000 in
theorem done_ct {k : PH} {g : Group} {a : Option Addr} {c : Nat} (hl : Sl tMember k a c g.l) (hok : g.ok) (hsm : SmallG g) (hgen : 0 ≤ g.gen ∧ g.gen ≤ 1048576) {o : GOp} {co : List Value} (ho : tGOp.rep k co o) (hf : fewM o.m = true) {tps : List Tp} {ta : Option Addr} {tc : Nat} (ht : Sl tTp k ta tc tps) (hbt : tps.length ≤ 30) :
    CT Try.prog 26 #[.agg (g.cs a c).toArray, .agg co.toArray, .slice ta tps.length tc] k (DoneV 4398046511104 g (doneF g o tps)) := by
  obtain ⟨d0, e0, d1, e1, rfl, ⟨hos, hoo⟩, ok1, ok2, ok3, ok4, ok5⟩ := ho
  have hob := small_own hsm
  have hfj := few_join hf
  refine ct_of_body (l := [_, _, _]) Try.func26 rfl Try.ntmps26 (by simp) DoneV.mono fun F hF0 hFm => ?_
  repeat (first | refine cg_seq ?_ | refine cg_region ?_)
  refine rb rfl rfl rfl rfl (a_box rfl rfl) ?_; intro b3 k3 hb3 hN3 hle3 hk3
  skip
  refine rb rfl rfl rfl rfl (a_box rfl rfl) ?_; intro b4 k4 hb4 hN4 hle4 hk4
  skip
  refine rb rfl rfl rfl rfl (a_alloc rfl) ?_; intro b6 k6 hb6 hN6 hle6 hk6
  have hk := hle3.trans hle4
  have hl := hl.le hk
  have hos := hos.le hk
  have hoo := hoo.le hk
  have ht := ht.le hk
  have c3 := (cells_at (vs := g.cs a c) hk3 rfl).le (hle4.trans hle6)
  have c4 := (cells_at (vs := o.cs d0 e0 d1 e1) hk4 rfl).le hle6
  obtain ⟨o0, om, o7, o8, o9⟩ := GOp.parts c4
  have p1 := (Group.parts c3).2.1
  clear c4
  repeat (first | refine cg_seq ?_ | refine cg_region ?_ | refine rg_nil ?_ | refine eg_then ?_ | refine qsp ?_ | refine qsl ?_ | refine qsf ?_ | refine cg_block ?_)
  cases q1 : (o.kind == 1)
  case true =>
    have hdf : doneF g o tps = joinG g o.m o.now := by unfold doneF; rw [if_pos (by simpa using q1)]
    rw [hdf]
    repeat (first | refine cg_seq ?_ | refine cg_region ?_ | refine qsl ?_ | refine qsg ?_ | refine qsf ?_ | refine cg_cond_true rfl ?_)
    refine rvh rfl rfl rfl rfl rfl rfl rfl hle6 (join_ct (g := g) (m := o.m) hl hok hsm hos hoo ok2 hfj.1 hfj.2 o.now ok4) ?_
    rintro k2 k7 _ _ hold hle7 hle27 ⟨a7, c7, rfl, h7⟩
    have hd : DoneOk 4398046511104 g (joinG g o.m o.now) := done_join hob
    generalize joinG g o.m o.now = q at h7 hd ⊢
    have hk67 := hle7 _ _ hk6
    have k26 := (hold _ _ hk6).trans hb6
    repeat (first | refine qsp ?_)
    refine rw1 (vs := q.1.cs a7 c7) rfl rfl rfl rfl rfl rfl rfl hk67 rfl (.inl hN6) (by simp [Group.cs, Value.oneCell']) ?_
    intro k8 ht8 hk8
    repeat (first | refine rg_nil ?_ | refine eg_then ?_ | refine qsp ?_ | refine cg_ret ?_ | refine eg_then_ret ?_ | refine eg_in_ret ?_)
    exact eg_returnC2 rfl rfl rfl rfl (cells_at (vs := q.1.cs a7 c7) hk8 rfl) rfl ⟨hd, a7, c7, rfl, h7.le (ht8 _ hle27 k26)⟩
  repeat (first | refine cg_seq ?_ | refine cg_region ?_ | refine rg_nil ?_ | refine eg_then ?_ | refine qsp ?_ | refine cg_cond_false rfl ?_)
  have om0 := (Member.parts om).1
  have z1 : ¬ o.kind = 1 := by simpa using q1
  cases q2 : (o.kind == 2)
  case true =>
    clear om
    repeat (first | refine cg_seq ?_ | refine cg_region ?_ | refine qsl ?_ | refine qsg ?_ | refine qsf ?_ | refine cg_cond_true rfl ?_)
    refine rs rfl rfl (loc_det rfl (d_subW rfl rfl rfl)) ?_
    repeat (first | refine qsp ?_ | refine qsl ?_ | refine qsf ?_)
    refine rvh rfl rfl rfl rfl rfl rfl rfl hle6 (sync_ct (g := g) hl hok hsm ht (by omega) o.m.id (IntKind.i64.wrap (g.gen - o.gen)) o.now ok4) ?_
    rintro k2 k7 _ _ hold hle7 hle27 ⟨x, own, e, a7, c7, a7', c7', rfl, h7, _, hS⟩
    have hd : DoneOk 4398046511104 g (x, e) := done_sync hS hob (by omega)
    have hdf : doneF g o tps = (x, e) := by unfold doneF; rw [if_neg z1, if_pos (by simpa using q2), syncF_eq hS]
    rw [hdf]
    have hk67 := hle7 _ _ hk6
    have k26 := (hold _ _ hk6).trans hb6
    repeat (first | refine qsp ?_)
    refine rb rfl rfl rfl rfl (a_alloc rfl) ?_; intro b8 k8 hb8 hN8 hle8 hk8
    refine rw1 (vs := x.cs a7 c7) rfl rfl rfl rfl rfl rfl rfl hk8 rfl (.inl hN8) (by simp [Group.cs, Value.oneCell']) ?_
    intro k9 ht9 hk9
    have hle9 := ht9 k7 hle8 hb8
    have hk69 := hle9 _ _ hk67
    have hle29 := hle27.trans hle9
    have d9 := cells_at (vs := x.cs a7 c7) hk9 rfl
    repeat (first | refine cg_seq ?_ | refine cg_region ?_ | refine rg_nil ?_ | refine eg_then ?_ | refine qsp ?_ | refine qsg ?_)
    refine rw1 (vs := x.cs a7 c7) rfl rfl rfl rfl rfl rfl rfl hk69 rfl (.inl hN6) (by simp [Group.cs, Value.oneCell']) ?_
    intro k10 ht10 hk10
    repeat (first | refine rg_nil ?_ | refine eg_then ?_ | refine qsp ?_ | refine cg_ret ?_ | refine eg_then_ret ?_ | refine eg_in_ret ?_)
    exact eg_returnC2 rfl rfl rfl rfl (cells_at (vs := x.cs a7 c7) hk10 rfl) rfl ⟨hd, a7, c7, rfl, h7.le (ht10 _ hle29 k26)⟩
  repeat (first | refine cg_seq ?_ | refine cg_region ?_ | refine rg_nil ?_ | refine eg_then ?_ | refine qsp ?_ | refine cg_cond_false rfl ?_)
  have z2 : ¬ o.kind = 2 := by simpa using q2
  cases q3 : (o.kind == 3)
  case true =>
    clear om
    have hdf : doneF g o tps = beatG g o.m.id (IntKind.i64.wrap (g.gen - o.gen)) o.now := by unfold doneF; rw [if_neg z1, if_neg z2, if_pos (by simpa using q3)]
    rw [hdf]
    repeat (first | refine cg_seq ?_ | refine cg_region ?_ | refine qsl ?_ | refine qsg ?_ | refine qsf ?_ | refine cg_cond_true rfl ?_)
    refine rs rfl rfl (loc_det rfl (d_subW rfl rfl rfl)) ?_
    repeat (first | refine qsl ?_ | refine qsf ?_)
    refine rvh rfl rfl rfl rfl rfl rfl rfl hle6 (beat_ct (g := g) hl hok hsm o.m.id (IntKind.i64.wrap (g.gen - o.gen)) o.now ok4) ?_
    rintro k2 k7 _ _ hold hle7 hle27 ⟨a7, c7, rfl, h7⟩
    have hd : DoneOk 4398046511104 g (beatG g o.m.id (IntKind.i64.wrap (g.gen - o.gen)) o.now) := done_beat hob
    generalize beatG g o.m.id (IntKind.i64.wrap (g.gen - o.gen)) o.now = q at h7 hd ⊢
    have hk67 := hle7 _ _ hk6
    have k26 := (hold _ _ hk6).trans hb6
    repeat (first | refine qsp ?_)
    refine rw1 (vs := q.1.cs a7 c7) rfl rfl rfl rfl rfl rfl rfl hk67 rfl (.inl hN6) (by simp [Group.cs, Value.oneCell']) ?_
    intro k8 ht8 hk8
    repeat (first | refine rg_nil ?_ | refine eg_then ?_ | refine qsp ?_ | refine cg_ret ?_ | refine eg_then_ret ?_ | refine eg_in_ret ?_)
    exact eg_returnC2 rfl rfl rfl rfl (cells_at (vs := q.1.cs a7 c7) hk8 rfl) rfl ⟨hd, a7, c7, rfl, h7.le (ht8 _ hle27 k26)⟩
  repeat (first | refine cg_seq ?_ | refine cg_region ?_ | refine rg_nil ?_ | refine eg_then ?_ | refine qsp ?_ | refine cg_cond_false rfl ?_)
  have z3 : ¬ o.kind = 3 := by simpa using q3
  cases q4 : (o.kind == 4)
  case true =>
    clear om
    have hdf : doneF g o tps = leaveG g o.m.id := by unfold doneF; rw [if_neg z1, if_neg z2, if_neg z3, if_pos (by simpa using q4)]
    rw [hdf]
    repeat (first | refine cg_seq ?_ | refine cg_region ?_ | refine qsl ?_ | refine qsg ?_ | refine qsf ?_ | refine cg_cond_true rfl ?_)
    refine rvh rfl rfl rfl rfl rfl rfl rfl hle6 (leave_ct (g := g) hl hok hsm o.m.id) ?_
    rintro k2 k7 _ _ hold hle7 hle27 ⟨a7, c7, rfl, h7⟩
    have hd : DoneOk 4398046511104 g (leaveG g o.m.id) := done_leave hob
    generalize leaveG g o.m.id = q at h7 hd ⊢
    have hk67 := hle7 _ _ hk6
    have k26 := (hold _ _ hk6).trans hb6
    repeat (first | refine qsp ?_)
    refine rw1 (vs := q.1.cs a7 c7) rfl rfl rfl rfl rfl rfl rfl hk67 rfl (.inl hN6) (by simp [Group.cs, Value.oneCell']) ?_
    intro k8 ht8 hk8
    repeat (first | refine rg_nil ?_ | refine eg_then ?_ | refine qsp ?_ | refine cg_ret ?_ | refine eg_then_ret ?_ | refine eg_in_ret ?_)
    exact eg_returnC2 rfl rfl rfl rfl (cells_at (vs := q.1.cs a7 c7) hk8 rfl) rfl ⟨hd, a7, c7, rfl, h7.le (ht8 _ hle27 k26)⟩
  clear om
  have z4 : ¬ o.kind = 4 := by simpa using q4
  have hdf : doneF g o tps = tickG g o.now o.most := by unfold doneF; rw [if_neg z1, if_neg z2, if_neg z3, if_neg z4]
  rw [hdf]
  repeat (first | refine cg_seq ?_ | refine cg_region ?_ | refine eg_then ?_ | refine qsl ?_ | refine qsg ?_ | refine qsf ?_ | refine cg_cond_false rfl ?_ | refine cg_skip ?_ | refine eg_in_normal ?_)
  refine rvh rfl rfl rfl rfl rfl rfl rfl hle6 (tick_ct (g := g) hl hok hsm o.now o.most) ?_
  rintro k2 k7 _ _ hold hle7 hle27 ⟨a7, c7, rfl, h7⟩
  have hd : DoneOk 4398046511104 g (tickG g o.now o.most) := done_tick hob
  generalize tickG g o.now o.most = q at h7 hd ⊢
  have hk67 := hle7 _ _ hk6
  have k26 := (hold _ _ hk6).trans hb6
  repeat (first | refine qsp ?_)
  refine rw1 (vs := q.1.cs a7 c7) rfl rfl rfl rfl rfl rfl rfl hk67 rfl (.inl hN6) (by simp [Group.cs, Value.oneCell']) ?_
  intro k8 ht8 hk8
  repeat (first | refine rg_nil ?_ | refine eg_then ?_ | refine qsp ?_ | refine cg_ret ?_)
  exact eg_returnC2 rfl rfl rfl rfl (cells_at (vs := q.1.cs a7 c7) hk8 rfl) rfl ⟨hd, a7, c7, rfl, h7.le (ht8 _ hle27 k26)⟩
end Go.Wm

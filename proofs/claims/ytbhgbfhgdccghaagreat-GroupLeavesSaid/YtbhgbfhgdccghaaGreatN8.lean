/-
  New, Fence, Beat, the program's. Conditions: that what is handed in reads as data.
-/
import Derived.Test.YtbhgbfhgdccghaaGreatS9
import Derived.Test.YtbhgbfhgdccghaaGreatN5
import Derived.Test.YtbhgbfhgdccghaaGreatP10
import Derived.Test.YtbhgbfhgdccghaaGreatJ1
set_option linter.all false
namespace Go.Wm
open Go.RowKit Go.Proofs
def wantE (e : Int) (b : Bool) (er : Int) : Int := if e = 0 ∧ b = false then er else e
def unjoin (m : Member) : Member := { m with joined := false }
def roundG (g : Group) : Group := { g with gen := g.gen + 1, l := g.l.map unjoin }
def noG : Group := ⟨⟨#[]⟩, 0, 0, []⟩
def toldG (g : Group) (e : Int) : Group × Int := if e ≠ 0 then (noG, e) else ({ g with state := stateG g.l }, 0)
def byId (id : ByteArray) (m : Member) : Int := cmpStr m.id id
/-- Where a member stands, or would stand; is it there? -/
def metAt (id : ByteArray) (l : List Member) (i : Nat) : Bool := decide ((l[i]?).map (byId id) = some 0)
structure FindAt (id : ByteArray) (l : List Member) (i : Nat) : Prop where
  le : i ≤ l.length
  pos : RightP ordId memOk l → i = posF (byId id) l
theorem byId_split {id : ByteArray} {l : List Member} (h : RightP ordId memOk l) : ∀ i j, (hi : i < l.length) → (hj : j < l.length) → i < j → byId id l[j] < 0 → byId id l[i] < 0 := by
  have := right_split ordL_id h ⟨id, ⟨#[]⟩, [], [], false, 0⟩
  exact this
theorem wantE_ne {e : Int} (h : e ≠ 0) (b : Bool) (er : Int) : wantE e b er = e := by unfold wantE; rw [if_neg (fun hh => h hh.1)]
theorem wantE_t (e : Int) (er : Int) : wantE e true er = e := by unfold wantE; rw [if_neg (fun hh => by cases hh.2)]
theorem wantE_f (er : Int) : wantE 0 false er = er := rfl
theorem toldG_ne {g : Group} {e : Int} (h : e ≠ 0) : toldG g e = (noG, e) := by unfold toldG; rw [if_pos h]
/-- Is somebody there? -/
def hasId (id : ByteArray) (l : List Member) : Bool := l.any fun m => decide (m.id = id)
theorem met_has {id : ByteArray} {l : List Member} (h : RightP ordId memOk l) : metAt id l (posF (byId id) l) = hasId id l := by
  have := right_met ordL_id h ⟨id, ⟨#[]⟩, [], [], false, 0⟩
  have e : metAt id l (posF (byId id) l) = metF (byId id) l := rfl
  rw [e]
  show metF (fun y => ordId y ⟨id, ⟨#[]⟩, [], [], false, 0⟩) l = _
  rw [this]
  unfold hasId
  congr 1
  funext y
  show decide (cmpStr y.id id = 0) = _
  rw [decide_eq_decide]
  exact cmpStr_eq
theorem chk_right {g : Group} (h : chkG g = 0) : RightP ordId memOk g.l := by
  unfold chkG at h
  split at h
  · cases h
  split at h
  · cases h
  rename_i h2
  exact (Decidable.not_not.1 h2).2.2.2.2
structure ChkG (g : Group) : Prop where
  few : g.l.length ≤ 64
  name : isName g.name = true
  gen0 : 0 ≤ g.gen
  gen1 : g.gen ≤ 1048576
  state : g.state = stateG g.l
  right : RightP ordId memOk g.l
  stat : (statics g.l).Nodup
  own : (owns g.l).Nodup
theorem chk_all {g : Group} (h : chkG g = 0) : ChkG g := by
  unfold chkG at h
  split at h
  · cases h
  rename_i h0
  split at h
  · cases h
  rename_i h1
  split at h
  · cases h
  rename_i h2
  have h1 := Decidable.not_not.1 h1
  have h2 := Decidable.not_not.1 h2
  exact ⟨by omega, h1.1, h1.2.1, h1.2.2.1, h1.2.2.2.1, h1.2.2.2.2, h2.1, h2.2⟩
theorem chk_of {g : Group} (h : ChkG g) : chkG g = 0 := by
  unfold chkG
  rw [if_neg (by have := h.few; omega), if_neg (fun hn => hn ⟨h.name, h.gen0, h.gen1, h.state, h.right⟩), if_neg (fun hn => hn ⟨h.stat, h.own⟩)]
def newG (n : ByteArray) : Group × Int := if isName n = true then (⟨n, 0, 0, []⟩, 0) else (noG, 1)
def fenceG (g : Group) (id : ByteArray) (gen : Int) : Int := if chkG g ≠ 0 then chkG g else if hasId id g.l = false then 230 else if gen ≠ g.gen then 231 else 0
def setBeat (now : Int) (m : Member) : Member := { m with beat := now }
def setAt (p : Nat) (f : Member → Member) (l : List Member) : List Member := match l[p]? with | some m => l.set p (f m) | none => l
theorem setAt_at {p : Nat} {f : Member → Member} {l : List Member} {m : Member} (h : l[p]? = some m) : setAt p f l = l.set p (f m) := by unfold setAt; rw [h]
def beatG (g : Group) (id : ByteArray) (gen now : Int) : Group × Int :=
  if chkG g ≠ 0 then (noG, chkG g) else if timeOk now = false then (noG, 1) else
  if hasId id g.l = false then (noG, 230) else
  if ((g.l[posF (byId id) g.l]?).map (·.joined)) ≠ some true then (noG, 232) else
  if gen ≠ g.gen then (noG, 231) else
  ({ g with l := setAt (posF (byId id) g.l) (setBeat now) g.l }, 0)
/-- A member in its place. -/
def insM (x : Member) (l : List Member) : List Member := l.take (posF (byId x.id) l) ++ x :: l.drop (posF (byId x.id) l)
def delM (i : Nat) (l : List Member) : List Member := l.take i ++ l.drop (i + 1)
/-- What is left to do when it is known what the member has, and who goes for it. -/
def finJ (g : Group) (l : List Member) (x : Member) (begins : Bool) : Group × Int :=
  if begins = true then (if g.gen < 1048576 then ({ g with gen := g.gen + 1, l := insM x (l.map unjoin), state := stateG (insM x (l.map unjoin)) }, 0) else (noG, 2))
  else ({ g with l := insM x l, state := stateG (insM x l) }, 0)
def sameStat (s : ByteArray) (m : Member) : Bool := !decide (s = ⟨#[]⟩) && decide (m.static = s)
/-- Two lists of partitions: what of the one is in the other. -/
def metOf (a b : List Tp) : List Tp := a.filter fun t => decide (t ∈ b)
def joinG (g : Group) (m : Member) (now : Int) : Group × Int :=
  if chkG g ≠ 0 then (noG, chkG g) else
  if memOk { m with beat := now, joined := true } = false then (noG, 1) else
  if hasId m.id g.l = true then
    match g.l[posF (byId m.id) g.l]? with
    | none => (noG, 0)
    | some was => if was.static ≠ m.static then (noG, 1) else finJ g (delM (posF (byId m.id) g.l) g.l) { m with beat := now, joined := true, own := metOf was.own m.own } (decide (g.state = 2))
  else match g.l.findIdx? (sameStat m.static) with
    | some s => match g.l[s]? with
      | none => (noG, 0)
      | some was => finJ g (delM s g.l) { m with beat := now, joined := true, own := was.own } (decide (g.state = 2) && !decide (was.subs = m.subs))
    | none => if 64 ≤ g.l.length then (noG, 2) else finJ g g.l { m with beat := now, joined := true, own := [] } (decide (g.state ≠ 1))
def lessG (g : Group) (l : List Member) : Group × Int :=
  if l.length < g.l.length ∧ 0 < l.length ∧ g.state = 2 then (if g.gen < 1048576 then ({ g with gen := g.gen + 1, l := l.map unjoin, state := stateG (l.map unjoin) }, 0) else (noG, 2))
  else ({ g with l := l, state := stateG l }, 0)
def leaveG (g : Group) (id : ByteArray) : Group × Int :=
  if chkG g ≠ 0 then (noG, chkG g) else if hasId id g.l = false then (noG, 230) else lessG g (g.l.filter fun m => !decide (m.id = id))
def lateM (now most : Int) (m : Member) : Bool := decide (m.beat + most < now)
def tickG (g : Group) (now most : Int) : Group × Int :=
  if chkG g ≠ 0 then (noG, chkG g) else if (timeOk now && timeOk most) = false then (noG, 1) else lessG g (g.l.filter fun m => !lateM now most m)
def setOwn (own : List Tp) (now : Int) (m : Member) : Member := { m with own := own, beat := now }
def syncE (g : Group) (id : ByteArray) (gen now : Int) (tps : List Tp) : Int :=
  if chkG g ≠ 0 then chkG g else if (timeOk now && decide (RightP ordTp tpOk tps)) = false then 1 else if hasId id g.l = false then 230 else if g.state = 1 then 232 else if gen ≠ g.gen then 231 else 0
end Go.Wm
namespace Go.Wm
open Go.RowKit Go.Proofs
theorem KeepAt.turn {N : Nat} {KK k k' : PH} {bk : Nat} {v : Value} {g g' : Group} {e e' : Int} (h : KeepAt N KK k bk v g e) (ht : Turn1 k k' bk) (hk : k' bk = some (.cells (kCells g' v e').toArray 59 (0, 0))) (hl : g'.l = g.l) : KeepAt N KK k' bk v g' e' := by
  obtain ⟨css, h1, h2, h3⟩ := h.row
  exact ⟨hk, h.nb, ht KK h.le h.kb, h.kb, h.ap, css, by rw [hl]; exact h1, by rw [hl]; exact h2.turnY ht h.at' (by decide), by rw [hl]; exact h3⟩
theorem KeepAt0.turn {N : Nat} {KK k k' : PH} {bk : Nat} {v : Value} {g g' : Group} {e e' : Int} (h : KeepAt0 N KK k bk v g e) (ht : Turn1 k k' bk) (hk : k' bk = some (.cells (kCells g' v e').toArray 59 (0, 0))) (hl : g'.l = g.l) : KeepAt0 N KK k' bk v g' e' := by
  obtain ⟨css, h1, h2⟩ := h.row
  exact ⟨hk, h.nb, ht KK h.le h.kb, h.kb, h.ap, css, by rw [hl]; exact h1, by rw [hl]; exact h2.turnY ht h.at' (by decide)⟩
theorem pairwise_set {α : Type} {R : α → α → Prop} (hs : ∀ a b, R a b → R b a) {l : List α} {i : Nat} {x : α} (h : l.Pairwise R) (hx : ∀ j y, l[j]? = some y → j ≠ i → R y x) : (l.set i x).Pairwise R := by
  rw [List.pairwise_iff_getElem] at h ⊢
  intro p q hp hq hpq
  rw [List.length_set] at hp hq
  rw [List.getElem_set, List.getElem_set]
  by_cases h1 : i = p
  · rw [if_pos h1, if_neg (by omega)]
    exact hs _ _ (hx q _ (List.getElem?_eq_getElem hq) (by omega))
  · rw [if_neg h1]
    by_cases h2 : i = q
    · rw [if_pos h2]
      exact hx p _ (List.getElem?_eq_getElem hp) (by omega)
    · rw [if_neg h2]; exact h p q hp hq hpq
theorem OwnsAt.set {N : Nat} {k : PH} {css : List (List Value)} {l : List Member} {i : Nat} {cs cs' : List Value} {m m' : Member} (h : OwnsAt N k css l) (hcs : css[i]? = some cs) (hm : l[i]? = some m) (hr : MemRow N k cs m → MemRow N k cs' m') (ho : cs'.getD 3 undef = cs.getD 3 undef) : OwnsAt N k (css.set i cs') (l.set i m') := by
  refine ⟨?_, pairwise_set (fun a b => ownNe.symm) h.ne fun j y hy hj => ?_⟩
  · intro j c x e1 e2
    obtain ⟨h1, _⟩ := List.getElem?_eq_some_iff.1 hcs
    obtain ⟨h2, _⟩ := List.getElem?_eq_some_iff.1 hm
    rw [List.getElem?_set] at e1 e2
    by_cases hij : i = j
    · subst hij
      rw [if_pos rfl, if_pos h1] at e1
      rw [if_pos rfl, if_pos h2] at e2
      cases e1
      cases e2
      exact hr (h.rows i cs m hcs hm)
    · rw [if_neg hij] at e1 e2
      exact h.rows j c x e1 e2
  · have : ownNe y cs := by
      obtain ⟨h1, rfl⟩ := List.getElem?_eq_some_iff.1 hcs
      obtain ⟨h2, rfl⟩ := List.getElem?_eq_some_iff.1 hy
      have hp := List.pairwise_iff_getElem.1 h.ne
      rcases Nat.lt_or_gt_of_ne hj with hlt | hlt
      · exact hp j i h2 h1 hlt
      · exact (hp i j h1 h2 hlt).symm
    intro g h1
    rw [ho]; exact this g h1
/-- What a group's change tells. -/
def GrpV (q : Group × Int) (k : PH) (v : Value) : Prop := ∃ a c, v = .tuple #[.agg (q.1.cs a c).toArray, .int .i64 q.2] ∧ Sl tMember k a c q.1.l
theorem GrpV.mono {q : Group × Int} : ∀ k k' v, Le k k' → GrpV q k v → GrpV q k' v := fun k k' v hle ⟨a, c, h1, h2⟩ => ⟨a, c, h1, h2.le hle⟩
/-- What a group's change tells: its members lie in a row of the call's own. -/
def GrpR (N : Nat) (KK : PH) (q : Group × Int) (k : PH) (v : Value) : Prop := ∃ a c css, v = .tuple #[.agg (q.1.cs a c).toArray, .int .i64 q.2] ∧ Pieces tMember KK css q.1.l ∧ Row N k 44 6 (.slice a q.1.l.length c) q.1.l.length css.flatten
theorem GrpR.sl {N : Nat} {KK k : PH} {a : Option Addr} {c : Nat} {l : List Member} {css : List (List Value)} (hp : Pieces tMember KK css l) (hr : Row N k 44 6 (.slice a l.length c) l.length css.flatten) (hle : Le KK k) : Sl tMember k a c l := by
  obtain ⟨a', c', e', s'⟩ := hr.sls (T := tMember) (hp.le hle)
  cases e'
  exact s'
/-- A call that makes blocks, made with less than is known. -/
theorem rvnh {P : Program} {F : Fr} {n : Nat} {ops : Array Oper} {Q : Exit → Act → World → Prop} {rest : List Oper} {o : Oper} {e : Env} {k h : PH} {x : Operand} {args : Array Operand} {ats : Array TypeId} {g : FuncId} {first cap : Array Value} {vs : List Value} [FnOk P g] {φ : Nat → PH → Value → Prop} {d : Nat}
    (hd : o.dst = some d) (hf : Nat.blt d n = true) (hdet : det e = true) (hgd : o.guard = none) (hop : o.op = .call { callee := .value x, args := args, argTypes := ats }) (hx : opv e x = some (.func (.func g) first cap)) (ha : opvs e args.toList = some vs)
    (hle : Le h k) (hct : CTN P g (first ++ vs.toArray ++ cap) h φ)
    (hh : ∀ N k2 k' v, F.w0.heap.size ≤ N → (∀ b, N ≤ b → k b = none) → Le h k2 → (∀ b o, k b = some o → k2 b = h b) → Le k k' → Le k2 k' → φ N k2 v → RG P F n ops Q rest ((d, .is v) :: e) k') : RG P F n ops Q (o :: rest) e k := by
  intro a w hag hs
  unfold wpList
  rw [if_pos (by simp [Region.wanted, hgd])]
  refine .inl (ex_enter (run_call hop hx ha (evs_of (ops := ops) (ag_looks hag))) (φ := fun v w' => ∃ k2 k', (∀ b, w.heap.size ≤ b → k b = none) ∧ Le h k2 ∧ (∀ b o, k b = some o → k2 b = h b) ∧ Le k k' ∧ Le k2 k' ∧ φ w.heap.size k2 v ∧ St F k' w') ((hct w h (Le.refl _) (hs.sub.mono hle)).mono ?_) _ _ ?_)
  · rintro en w' ⟨v, k2, h1, h2, h3, h4, h5⟩
    have hag' : Agr w.heap.size k (fun b => if b < w.heap.size then k b else k2 b) := fun b hb => by simp [hb]
    have hsub' : Sub (fun b => if b < w.heap.size then k b else k2 b) w' := fun b ob hb => by
      by_cases hbl : b < w.heap.size
      · simp only [hbl, if_true] at hb
        rw [h2.block b hbl]; exact hs.sub b ob hb
      · simp only [hbl, if_false] at hb
        exact h4 b ob hb
    refine ⟨v, h1, k2, fun b => if b < w.heap.size then k b else k2 b, fun b hb => hs.sub.none hb, h3.le (hs.sub.mono hle), fun b o hb => h3 b (hs.sub.lt hb), hag'.le hs.sub, fun b ob hb => ?_, h5, hs.step h2 hag' hsub'⟩
    by_cases hbl : b < w.heap.size
    · simp only [hbl, if_true]
      have := h3 b hbl
      rw [this] at hb
      exact hle b ob hb
    · simp only [hbl, if_false]; exact hb
  · rintro v w' ⟨k2, k', h0, h1, h2, h3, h4, h5, h6⟩
    refine hh w.heap.size k2 k' v hs.size h0 h1 h2 h3 h4 h5 _ _ ?_ h6
    rw [hd]
    exact (hag.heap (k' := k') hdet).put (d := some d) (p := .is v) hf rfl
theorem sl_nilM (k : PH) : Sl tMember k none 0 [] := ⟨by simp, by simp [maxLen], fun _ => rfl, by simp, by simp⟩
attribute [local irreducible] RG CG EG WA Loc Det Alc CT Exit.then Exit.inBlock Code.wp bodyPost
set_option maxHeartbeats 400000 in
theorem want_ctm {N : Nat} {KK k : PH} {bk : Nat} {v : Value} {g : Group} {e : Int} (h : KeepAt N KK k bk v g e) (b : Bool) (er : Int) :
    CTM Tryz.prog 25 #[.pointer (some ⟨bk, 0, none⟩), .bool b, .int .i64 er] k (fun x => x = bk) (fun k' u => u = .tuple #[] ∧ KeepAt N KK k' bk v g (wantE e b er)) := by
  refine ctm_of_body (l := [_, _, _]) Tryz.func25 rfl Tryz.ntmps25 (by simp) fun F hF0 hFm hlt => ?_
  have c4 := (cells_at (vs := kCells g v e) h.at' rfl).one (i := 4) rfl
  repeat (first | refine cg_seq ?_ | refine cg_region ?_ | refine qsp ?_ | refine qsl ?_ | refine qsf ?_)
  cases q1 : (e == 0)
  · have : e ≠ 0 := by simpa using q1
    repeat (first | refine rg_nil ?_ | refine eg_then ?_ | refine qsp ?_ | refine qso ?_ | refine cg_cond_false rfl ?_ | refine cg_skip ?_)
    refine eg_done rfl ⟨rfl, ?_⟩
    unfold wantE; rw [if_neg (fun hh => this hh.1)]; exact h
  have q1 : e = 0 := by simpa using q1
  cases b
  · repeat (first | refine cg_region ?_ | refine rg_nil ?_ | refine eg_then ?_ | refine qsp ?_ | refine qsf ?_ | refine cg_cond_true rfl ?_)
    refine rw0 rfl rfl rfl rfl rfl rfl rfl rfl h.at' (by show _ < 5; omega) (.inr (by rw [hFm])) ?_; intro k2 ht2 hk2
    repeat (first | refine rg_nil ?_)
    refine eg_done rfl ⟨rfl, ?_⟩
    unfold wantE; rw [if_pos ⟨q1, rfl⟩]
    exact h.turn ht2 hk2 rfl
  · repeat (first | refine rg_nil ?_ | refine eg_then ?_ | refine qsp ?_ | refine cg_cond_false rfl ?_ | refine cg_skip ?_)
    refine eg_done rfl ⟨rfl, ?_⟩
    unfold wantE; rw [if_neg (fun hh => by cases hh.2)]; exact h
theorem find1_ct {k : PH} {m : Member} {cm : List Value} (hm : tMember.rep k cm m) (id : ByteArray) : CT Tryz.prog 68 #[.agg cm.toArray, .string id] k (fun _ v => v = .int .i64 (byId id m)) := by
  obtain ⟨a0, c0, a1, c1, rfl, _, _⟩ := hm
  refine ct_of_body (l := [_, _]) Tryz.func68 rfl Tryz.ntmps68 (by simp) (fun _ _ _ _ h => h) fun F hF0 hFm => ?_
  repeat (first | refine cg_seq ?_ | refine cg_region ?_)
  refine rb rfl rfl rfl rfl (a_box rfl rfl) ?_; intro b2 k2 hb2 hN2 hle2 hk2
  obtain ⟨p0, p1, p2, p3, p4, p5⟩ := Member.parts (cells_at (vs := m.cs a0 c0 a1 c1) hk2 rfl)
  repeat (first | refine cg_seq ?_ | refine cg_region ?_ | refine rg_nil ?_ | refine eg_then ?_ | refine qsp ?_ | refine qsl ?_ | refine qsf ?_)
  refine rs rfl rfl (loc_call_is rfl rfl rfl rfl (strCompare_ct m.id id)) ?_
  repeat (first | refine rg_nil ?_ | refine eg_then ?_ | refine qsp ?_ | refine cg_ret ?_)
  exact eg_return rfl rfl rfl
set_option maxHeartbeats 400000 in
theorem find_ctm {N : Nat} {KK k : PH} {bk : Nat} {v : Value} {g : Group} {e : Int} (h : KeepAt N KK k bk v g e) (hb : g.l.length ≤ 1000000000000000) (id : ByteArray) (wanted : Bool) :
    CTM Tryz.prog 30 #[.pointer (some ⟨bk, 0, none⟩), .string id, .bool wanted] k (fun x => x = bk) (fun k' u => ∃ i : Nat, u = .tuple #[.int .i64 (i : Int), .bool (metAt id g.l i)] ∧ FindAt id g.l i ∧ KeepAt N KK k' bk v g (wantE e (metAt id g.l i || !wanted) 230)) := by
  refine ctm_of_body (l := [_, _, _]) Tryz.func30 rfl Tryz.ntmps30 (by simp) fun F hF0 hFm hlt => ?_
  obtain ⟨a, c, rfl, hsl⟩ := h.sl
  have c3 := (cells_at (vs := kCells g (.slice a g.l.length c) e) h.at' rfl).one (i := 3) rfl
  repeat (first | refine cg_seq ?_ | refine cg_region ?_ | refine rg_nil ?_ | refine eg_then ?_ | refine qsp ?_ | refine qsl ?_ | refine qsf ?_)
  refine rv rfl rfl rfl (loc_call rfl rfl rfl rfl (fun _ _ _ _ h => h) (binSearchWMem_ct hsl hb (g := 68) (cap := #[]) (.string id) (byId id) (fun k0 _ m _ cm hcm => find1_ct hcm id))) ?_
  rintro k1 hle1 _ ⟨i, rfl, hi, hpos⟩
  have h := h.up hle1
  have hfa : FindAt id g.l i := ⟨hi, fun hr => hpos (byId_split hr)⟩
  have hme : decide ((g.l[i]?).map (byId id) = some 0) = metAt id g.l i := rfl
  rw [hme]
  clear c3
  repeat (first | refine cg_seq ?_ | refine cg_region ?_ | refine rg_nil ?_ | refine eg_then ?_ | refine qsp ?_)
  cases q1 : metAt id g.l i
  · repeat (first | refine qsp ?_)
    refine rcm rfl rfl rfl rfl rfl rfl rfl (want_ctm h (!wanted) 230) (fun b hb => .inr (by rw [hFm]; exact hb)) ?_
    rintro _ k2 _ ⟨rfl, h2⟩
    repeat (first | refine cg_seq ?_ | refine cg_region ?_ | refine rg_nil ?_ | refine eg_then ?_ | refine qsp ?_ | refine cg_ret ?_)
    exact eg_return2 rfl rfl rfl ⟨i, by rw [q1]; rfl, hfa, by rw [q1]; exact h2⟩
  · repeat (first | refine qsp ?_ | refine qso ?_)
    refine rcm rfl rfl rfl rfl rfl rfl rfl (want_ctm h true 230) (fun b hb => .inr (by rw [hFm]; exact hb)) ?_
    rintro _ k2 _ ⟨rfl, h2⟩
    repeat (first | refine cg_seq ?_ | refine cg_region ?_ | refine rg_nil ?_ | refine eg_then ?_ | refine qsp ?_ | refine cg_ret ?_)
    exact eg_return2 rfl rfl rfl ⟨i, by rw [q1]; rfl, hfa, by rw [q1]; exact h2⟩
end Go.Wm
namespace Go.Wm
open Go.RowKit Go.Proofs
def curU (l : List Member) (i : Nat) : List Member := (l.take i).map unjoin ++ l.drop i
theorem curU_zero (l : List Member) : curU l 0 = l := by simp [curU]
theorem curU_len (l : List Member) (i : Nat) : (curU l i).length = l.length := by
  unfold curU
  rw [List.length_append, List.length_map, List.length_take, List.length_drop]; omega
theorem curU_end (l : List Member) : curU l l.length = l.map unjoin := by simp [curU]
theorem curU_at {l : List Member} {i : Nat} (h : i < l.length) : (curU l i)[i]? = some l[i] := by
  unfold curU
  have e : ((l.take i).map unjoin).length = i := by rw [List.length_map, List.length_take]; omega
  rw [List.getElem?_append_right (by omega), e, Nat.sub_self, List.getElem?_drop, Nat.add_zero, List.getElem?_eq_getElem h]
theorem curU_succ {l : List Member} {i : Nat} (h : i < l.length) : curU l (i + 1) = (curU l i).set i (unjoin l[i]) := by
  unfold curU
  rw [List.take_succ_eq_append_getElem h, List.map_append, List.set_append_right _ _ (by simp; omega)]
  have e : i - ((l.take i).map unjoin).length = 0 := by simp; omega
  rw [e]
  simp only [List.append_assoc]
  rw [List.drop_eq_getElem_cons h]; rfl
attribute [local irreducible] RG CG EG WA Loc Det Alc CT Exit.then Exit.inBlock Code.wp bodyPost
set_option maxHeartbeats 1000000 in
theorem told_ctm {N : Nat} {KK k : PH} {bk : Nat} {v : Value} {g : Group} {e : Int} (h : KeepAt0 N KK k bk v g e) :
    CTM Tryz.prog 34 #[.pointer (some ⟨bk, 0, none⟩)] k (fun x => x = bk) (GrpR N KK (toldG g e)) := by
  refine ctm_of_body (l := [_]) Tryz.func34 rfl Tryz.ntmps34 (by simp) fun F hF0 hFm hlt => ?_
  obtain ⟨a, c, rfl, hsl⟩ := h.sl
  repeat (first | refine cg_seq ?_ | refine cg_region ?_)
  refine rb rfl rfl rfl rfl (a_alloc rfl) ?_; intro b2 k2 hb2 hN2 hle2 hk2
  have n2 : bk ≠ b2 := fun e => by have := h.at'; rw [e, hb2] at this; cases this
  have hKb2 : KK b2 = none := by
    cases hc : KK b2 with
    | none => rfl
    | some ob => have := h.le _ _ hc; rw [hb2] at this; cases this
  have h := h.up hle2
  have hsl := hsl.le hle2
  have c4 := (cells_at (vs := kCells g (.slice a g.l.length c) e) h.at' rfl).one (i := 4) rfl
  have c3 := (cells_at (vs := kCells g (.slice a g.l.length c) e) h.at' rfl).one (i := 3) rfl
  repeat (first | refine cg_seq ?_ | refine cg_region ?_ | refine rg_nil ?_ | refine eg_then ?_ | refine qsp ?_ | refine qsl ?_ | refine qsf ?_)
  cases q1 : (e != 0)
  case true =>
    have he : e ≠ 0 := by simpa using q1
    repeat (first | refine cg_seq ?_ | refine cg_cond_true rfl ?_)
    have cd4 := c4.delL (rs := [b2]) (by simpa using n2)
    refine cg_chain 6 [5] (fun _ => [(b2, .cells (noG.cs none 0).toArray 24 (0, 0))]) [b2] (fun _ => rfl) (by kernel_rfl) (by kernel_rfl) rfl (by kernel_rfl) rfl (fun p' hp' => by simp at hp'; rw [hp']; exact hk2) (fun r hr => by simp at hr; rw [hr]; exact hN2) ?_
    dsimp only [List.take]
    refine wc_s rfl (loc_det rfl (d_lit (cells := noG.cs none 0) rfl rfl rfl)) rfl ?_
    repeat (first | refine qcp ?_ | refine qcl ?_ | refine qcf ?_)
    refine wc_e 0 rfl (effs_stoL (j := 0) (vs := noG.cs none 0) (c := (noG.cs none 0).toArray) rfl rfl rfl rfl rfl (by simp [Group.cs, Value.oneCell']) rfl rfl rfl (fun i p' h1 h2 => by cases i with | zero => exact absurd rfl h2 | succ i => simp at h1) hN2) ?_
    refine wc_nil ?_
    intro k3 vs hle3 _
    dsimp only [List.drop, set, argEnv, nameE, nameP]
    have hk4 : setL k3 [(b2, .cells (noG.cs none 0).toArray 24 (0, 0))] b2 = some (.cells (noG.cs none 0).toArray 24 (0, 0)) := upd_same _ _ _
    change RG _ _ _ _ _ _ _ (setL k3 [(b2, .cells (noG.cs none 0).toArray 24 (0, 0))])
    generalize setL k3 [(b2, .cells (noG.cs none 0).toArray 24 (0, 0))] = k4 at hk4 ⊢
    repeat (first | refine rg_nil ?_ | refine eg_then ?_ | refine qsp ?_ | refine cg_ret ?_ | refine eg_then_ret ?_)
    refine eg_returnC2 rfl rfl rfl rfl (cells_at (vs := noG.cs none 0) hk4 rfl) rfl ?_
    unfold toldG; rw [if_pos he]; exact ⟨none, 0, [], rfl, Pieces.nil _ _, row_nil _ _ _ _⟩
  have he : e = 0 := by simpa using q1
  repeat (first | refine cg_seq ?_ | refine cg_region ?_ | refine eg_then ?_ | refine qsp ?_ | refine qsl ?_ | refine qsf ?_ | refine cg_cond_false rfl ?_ | refine cg_skip ?_)
  refine rs rfl rfl (loc_call_is rfl rfl rfl rfl (state_ct hsl)) ?_
  repeat (first | refine qsp ?_ | refine qsf ?_)
  refine rw0 rfl rfl rfl rfl rfl rfl rfl rfl h.at' (by show _ < 5; omega) (.inr (by rw [hFm])) ?_; intro k3 ht3 hk3
  have h3 : KeepAt0 N KK k3 bk (.slice a g.l.length c) { g with state := stateG g.l } e := h.turn ht3 hk3 rfl
  have hk23 := turn1_get ht3 (Ne.symm n2) hk2
  have cw : Cells k3 bk (0 + 0) (({ g with state := stateG g.l } : Group).cs a c) := (cells_at (vs := kCells { g with state := stateG g.l } (.slice a g.l.length c) e) h3.at' rfl).win (n := 4) 0 rfl
  obtain ⟨a', c', hve, hsl3⟩ := h3.sl
  cases hve
  repeat (first | refine cg_seq ?_ | refine cg_region ?_ | refine rg_nil ?_ | refine eg_then ?_ | refine qsp ?_ | refine qsg ?_ | refine qsf ?_)
  refine rw1 (vs := ({ g with state := stateG g.l } : Group).cs a c) rfl rfl rfl rfl rfl rfl rfl hk23 rfl (.inl hN2) ?_ ?_
  · simp [Group.cs, Value.oneCell']
  intro k4 ht4 hk4
  repeat (first | refine rg_nil ?_ | refine eg_then ?_ | refine qsp ?_ | refine cg_ret ?_)
  refine eg_returnC2 rfl rfl rfl rfl (cells_at (vs := ({ g with state := stateG g.l } : Group).cs a c) hk4 rfl) rfl ?_
  unfold toldG; rw [if_neg (fun hh => hh he)]
  obtain ⟨css, u1, u2⟩ := h3.row
  exact ⟨a, c, css, rfl, u1, u2.turnY ht4 hk23 (by decide)⟩
set_option maxHeartbeats 1000000 in
theorem round_ctm {N : Nat} {KK k : PH} {bk : Nat} {v : Value} {g : Group} {e : Int} (h : KeepAt N KK k bk v g e) (hg : I64 g.gen) (hg2 : I64 (g.gen + 1)) :
    CTM Tryz.prog 58 #[.pointer (some ⟨bk, 0, none⟩)] k (fun x => x = bk ∨ v.ownBlock = some x) (fun k' u => u = .tuple #[] ∧ KeepAt N KK k' bk v (roundG g) (wantE e (decide (g.gen < 1048576)) 2)) := by
  refine ctm_of_body (l := [_]) Tryz.func58 rfl Tryz.ntmps58 (by simp) fun F hF0 hFm hlt => ?_
  unfold I64 at hg hg2
  have om : F.w0.heap.size ≤ bk ∨ F.mu bk := .inr (by rw [hFm]; exact .inl rfl)
  have c1 := (cells_at (vs := kCells g v e) h.at' rfl).one (i := 1) rfl
  repeat (first | refine cg_seq ?_ | refine cg_region ?_ | refine qsp ?_ | refine qsl ?_ | refine qsf ?_)
  refine rcm rfl rfl rfl rfl rfl rfl rfl (want_ctm h (decide (g.gen < 1048576)) 2) (fun b hb => by rw [hb]; exact om) ?_
  rintro _ k2 _ ⟨rfl, h2⟩
  generalize wantE e (decide (g.gen < 1048576)) 2 = e2 at h2 ⊢
  have c1 := (cells_at (vs := kCells g v e2) h2.at' rfl).one (i := 1) rfl
  repeat (first | refine cg_seq ?_ | refine cg_region ?_ | refine rg_nil ?_ | refine eg_then ?_ | refine qsp ?_ | refine qsa ?_ | refine qsl ?_ | refine qsf ?_)
  refine rw0 rfl rfl rfl rfl rfl rfl rfl rfl h2.at' (by show _ < 5; omega) om ?_; intro k3 ht3 hk3
  have h3 : KeepAt N KK k3 bk v { g with gen := g.gen + 1 } e2 := h2.turn ht3 hk3 rfl
  obtain ⟨a, c, rfl, hsl⟩ := h3.sl
  have b1 := hsl.cap; have b2 := hsl.max; unfold maxLen at b2
  have c3 := (cells_at (vs := kCells { g with gen := g.gen + 1 } (.slice a g.l.length c) e2) h3.at' rfl).one (i := 3) rfl
  dsimp only at c3 b1 b2
  clear c1 hk3 ht3
  repeat (first | refine cg_seq ?_ | refine cg_region ?_ | refine rg_nil ?_ | refine eg_then ?_ | refine qsp ?_ | refine qsn ?_ | refine qsl ?_ | refine qsf ?_ | refine cg_block ?_)
  refine cg_loop (fun (i : Nat) e k' => KeepAt N KK k' bk (.slice a g.l.length c) { g with gen := g.gen + 1, l := curU g.l i } e2 ∧ i ≤ g.l.length ∧ e = [(0, .is (.pointer (some ⟨bk, 0, none⟩))), (25, .is (.int .i64 (g.l.length : Int))), (26, .is (.int .i64 (i : Int)))])
    (fun i => g.l.length - i) 0 ⟨by rw [curU_zero]; exact h3, Nat.zero_le _, rfl⟩ ⟨rfl, rfl, rfl, trivial⟩ ?_
  rintro i e k4 ⟨h4, hi, rfl⟩
  repeat (first | refine cg_seq ?_ | refine cg_region ?_ | refine rg_nil ?_ | refine eg_then ?_ | refine qsp ?_)
  refine cg_cond rfl (fun h => ?_) (fun h => ?_)
  rotate_left
  · have hil : i = g.l.length := by have := of_decide_eq_false h; omega
    rw [hil, curU_end] at h4
    repeat (first | refine cg_exit ?_ | refine eg_then_exit ?_ | refine eg_in_exit ?_)
    exact eg_done rfl ⟨rfl, h4⟩
  have hlt' : i < g.l.length := by have := of_decide_eq_true h; omega
  obtain ⟨css, u1, u2, u3⟩ := h4.row
  dsimp only at u1 u2 u3
  rw [curU_len] at u2
  have hcl : css.length = g.l.length := by rw [u1.1, curU_len]
  have hcs := List.getElem?_eq_getElem (show i < css.length by omega)
  obtain ⟨a0, c0, a1, c1, hce, hsl4, hmok⟩ := u1.2 i _ _ hcs (curU_at hlt')
  rw [hce] at hcs
  obtain ⟨gb, cap, cur, hve, hgN, hkg, hglt, hcg, hset⟩ := Row.cell (i := i) (j := 4) (cs := g.l[i].cs a0 c0 a1 c1) u2 (fun y hy => u1.len y hy) hcs (by omega)
  cases hve
  have hne : gb ≠ bk := fun e => by rw [e, h4.at'] at hkg; cases hkg
  have hKg : KK gb = none := h4.ap gb rfl
  have ck := (cells_at (vs := kCells { g with gen := g.gen + 1, l := curU g.l i } (.slice (some ⟨gb, 0, none⟩) g.l.length c) e2) h4.at' rfl).one (i := 3) rfl
  repeat (first | refine cg_seq ?_ | refine cg_region ?_ | refine rg_nil ?_ | refine eg_then ?_ | refine qsp ?_ | refine qsi ?_ | refine qsl ?_ | refine qsf ?_ | refine cg_skip ?_ | refine cg_block ?_)
  refine rw0 rfl rfl rfl rfl rfl rfl rfl rfl hkg (show 0 + i * 6 + 4 < cur.size by omega) (.inr (by rw [hFm]; exact .inr rfl)) ?_; intro k5 ht5 hk5
  have hrow5 := hset k5 (.bool false) ht5 (by rw [hk5]; simp)
  repeat (first | refine cg_region ?_ | refine rg_nil ?_ | refine eg_then ?_ | refine qsp ?_ | refine qsa ?_ | refine eg_in_normal ?_)
  refine eg_again (i + 1) _ ⟨⟨turn1_get ht5 (Ne.symm hne) h4.at', h4.nb, ht5 KK h4.le hKg, h4.kb, h4.ap, css.set i ((g.l[i].cs a0 c0 a1 c1).set 4 (.bool false)), ?_, ?_, ?_⟩, hlt', rfl⟩ (by omega) ⟨rfl, rfl, rfl, trivial⟩
  · dsimp only
    rw [curU_succ hlt']
    exact u1.set i ⟨a0, c0, a1, c1, rfl, hsl4, hmok⟩
  · dsimp only
    rw [curU_len]
    exact hrow5
  · dsimp only
    rw [curU_succ hlt']
    exact u3.set hcs (curU_at hlt') (fun x => ⟨x.own, x.subs⟩) rfl
end Go.Wm
namespace Go.Wm
open Go.RowKit Go.Proofs
structure LOk (l : List Member) : Prop where
  right : RightP ordId memOk l
  stat : (statics l).Nodup
  own : (owns l).Nodup
theorem right_all {l : List Member} : RightP ordId memOk l ↔ (∀ x ∈ l, memOk x = true) ∧ l.Pairwise fun a b => ordId a b < 0 := right_iff ordL_id
theorem statics_perm {l l' : List Member} (h : l.Perm l') : (statics l).Perm (statics l') := (h.map _).filter _
theorem owns_perm {l l' : List Member} (h : l.Perm l') : (owns l).Perm (owns l') := h.flatMap_right _
theorem statics_cons (x : Member) (l : List Member) : statics (x :: l) = (if x.static = ⟨#[]⟩ then [] else [x.static]) ++ statics l := by
  unfold statics
  rw [List.map_cons, List.filter_cons]
  by_cases h : x.static = ⟨#[]⟩ <;> simp [h]
theorem owns_cons (x : Member) (l : List Member) : owns (x :: l) = x.own ++ owns l := rfl
theorem ownsSub {l l' : List Member} (h : l'.Sublist l) : (owns l').Sublist (owns l) := by
  induction h with
  | slnil => exact List.Sublist.refl _
  | cons a h ih => rw [owns_cons]; exact ih.trans (List.sublist_append_right _ _)
  | cons_cons a h ih => rw [owns_cons, owns_cons]; exact (List.Sublist.refl _).append ih
theorem LOk.sub {l l' : List Member} (h : LOk l) (hs : l'.Sublist l) : LOk l' := by
  obtain ⟨h1, h2⟩ := right_all.1 h.right
  refine ⟨right_all.2 ⟨fun x hx => h1 x (hs.subset hx), h2.sublist hs⟩, h.stat.sublist ((hs.map _).filter _), h.own.sublist (ownsSub hs)⟩
theorem memOk_unjoin (m : Member) : memOk (unjoin m) = memOk m := rfl
theorem statics_unjoin (l : List Member) : statics (l.map unjoin) = statics l := by
  unfold statics; rw [List.map_map]; rfl
theorem owns_unjoin (l : List Member) : owns (l.map unjoin) = owns l := by
  unfold owns; rw [List.flatMap_map]; rfl
theorem LOk.unjoin {l : List Member} (h : LOk l) : LOk (l.map unjoin) := by
  obtain ⟨h1, h2⟩ := right_all.1 h.right
  refine ⟨right_all.2 ⟨fun x hx => ?_, ?_⟩, by rw [statics_unjoin]; exact h.stat, by rw [owns_unjoin]; exact h.own⟩
  · obtain ⟨y, hy, rfl⟩ := List.mem_map.1 hx
    rw [memOk_unjoin]; exact h1 y hy
  · exact List.pairwise_map.2 h2
theorem hasId_false {id : ByteArray} {l : List Member} : hasId id l = false ↔ ∀ m ∈ l, m.id ≠ id := by
  unfold hasId; simp
theorem hasId_true {id : ByteArray} {l : List Member} : hasId id l = true ↔ ∃ m ∈ l, m.id = id := by
  unfold hasId; simp
theorem ins_perm (x : Member) (l : List Member) : (insM x l).Perm (x :: l) := by
  unfold insM
  refine List.perm_middle.trans ?_
  rw [List.take_append_drop]
theorem mem_ins {x y : Member} {l : List Member} : y ∈ insM x l ↔ y = x ∨ y ∈ l := by
  rw [(ins_perm x l).mem_iff]; simp
theorem not_met {id : ByteArray} {l : List Member} (h : RightP ordId memOk l) (hn : hasId id l = false) (x : Member) (hx : x.id = id) : ¬ metF (fun y => ordId y x) l = true := by
  rw [right_met ordL_id h x]
  intro ha
  obtain ⟨y, hy, hz⟩ := List.any_eq_true.1 ha
  have hz : cmpStr y.id x.id = 0 := of_decide_eq_true hz
  exact hasId_false.1 hn y hy (by rw [cmpStr_eq.1 hz, hx])
theorem LOk.ins {l : List Member} {x : Member} (h : LOk l) (hx : memOk x = true) (hid : hasId x.id l = false) (hst : x.static = ⟨#[]⟩ ∨ ∀ m ∈ l, m.static ≠ x.static) (how : ∀ t ∈ x.own, t ∉ owns l) : LOk (insM x l) := by
  obtain ⟨h1, h2⟩ := right_all.1 h.right
  have hn := not_met h.right hid x rfl
  refine ⟨right_all.2 ⟨fun y hy => ?_, ?_⟩, ?_, ?_⟩
  · rcases mem_ins.1 hy with rfl | hy
    · exact hx
    · exact h1 y hy
  · have hb : ∀ y ∈ l.take (posF (byId x.id) l), ordId y x < 0 := fun y hy => take_below (f := byId x.id) y hy
    have ha : ∀ y ∈ l.drop (posF (byId x.id) l), ordId x y < 0 := drop_above ordL_id h2 hn
    unfold insM
    rw [List.pairwise_append]
    refine ⟨h2.sublist (List.take_sublist _ _), List.pairwise_cons.2 ⟨ha, h2.sublist (List.drop_sublist _ _)⟩, fun a ha' b hb' => ?_⟩
    rcases List.mem_cons.1 hb' with rfl | hb'
    · exact hb a ha'
    · exact ordL_id.tr _ _ _ (hb a ha') (ha b hb')
  · rw [(statics_perm (ins_perm x l)).nodup_iff, statics_cons]
    by_cases he : x.static = ⟨#[]⟩
    · rw [if_pos he]; exact h.stat
    · rw [if_neg he]
      refine List.nodup_cons.2 ⟨fun hm => ?_, h.stat⟩
      unfold statics at hm
      obtain ⟨hm, _⟩ := List.mem_filter.1 hm
      obtain ⟨y, hy, hye⟩ := List.mem_map.1 hm
      rcases hst with hst | hst
      · exact he hst
      · exact hst y hy hye
  · rw [(owns_perm (ins_perm x l)).nodup_iff, owns_cons]
    refine List.nodup_append.2 ⟨?_, h.own, fun a ha b hb e => how a ha (e ▸ hb)⟩
    have hr : RightP ordTp tpOk x.own := by
      unfold memOk at hx
      simp only [Bool.and_eq_true, decide_eq_true_eq] at hx
      exact hx.2.2.2.2.2
    exact ((right_iff ordL_tp).1 hr).2.imp fun {a b} hlt he => by rw [he, ordTp_eq.2 rfl] at hlt; omega
theorem del_sub (i : Nat) (l : List Member) : (delM i l).Sublist l := by
  unfold delM
  rw [← List.eraseIdx_eq_take_drop_succ]
  exact List.eraseIdx_sublist _ _
theorem del_perm {i : Nat} {l : List Member} {was : Member} (h : l[i]? = some was) : l.Perm (was :: delM i l) := by
  obtain ⟨hi, rfl⟩ := List.getElem?_eq_some_iff.1 h
  unfold delM
  have e : l.take i ++ l[i] :: l.drop (i + 1) = l := by rw [← List.drop_eq_getElem_cons hi, List.take_append_drop]
  exact (by rw [e] : l.Perm (l.take i ++ l[i] :: l.drop (i + 1))).trans List.perm_middle
theorem del_len {i : Nat} {l : List Member} {was : Member} (h : l[i]? = some was) : (delM i l).length + 1 = l.length := by
  have := (del_perm h).length_eq
  simpa using this.symm
/-- Who stands where it is looked for. -/
theorem has_at {id : ByteArray} {l : List Member} (h : RightP ordId memOk l) (hh : hasId id l = true) : ∃ was, l[posF (byId id) l]? = some was ∧ was.id = id := by
  rw [← met_has h] at hh
  unfold metAt at hh
  have hh := of_decide_eq_true hh
  cases e : l[posF (byId id) l]? with
  | none => rw [e] at hh; cases hh
  | some was =>
    rw [e] at hh
    refine ⟨was, rfl, cmpStr_eq.1 ?_⟩
    simpa [byId] using hh
theorem chk_lok {g : Group} (h : ChkG g) : LOk g.l := ⟨h.right, h.stat, h.own⟩
theorem memOk_right {m : Member} (h : memOk m = true) : RightP ordTp tpOk m.own := by
  unfold memOk at h
  simp only [Bool.and_eq_true, decide_eq_true_eq] at h
  exact h.2.2.2.2.2
/-- The ways a member may join. -/
inductive JoinR (g : Group) (m : Member) (now : Int) : Group × Int → Prop
  | bad {e : Int} (h : chkG g ≠ 0) (he : e = chkG g) : JoinR g m now (noG, e)
  | arg (h : ChkG g) (h2 : memOk { m with beat := now, joined := true } = false ∨ ∃ was ∈ g.l, was.id = m.id ∧ was.static ≠ m.static) : JoinR g m now (noG, 1)
  | back {i : Nat} {was : Member} (h : ChkG g) (h2 : memOk { m with beat := now, joined := true } = true) (hi : g.l[i]? = some was) (hid : was.id = m.id) (hst : was.static = m.static) : JoinR g m now (finJ g (delM i g.l) { m with beat := now, joined := true, own := metOf was.own m.own } (decide (g.state = 2)))
  | stays {i : Nat} {was : Member} (h : ChkG g) (h2 : memOk { m with beat := now, joined := true } = true) (hno : hasId m.id g.l = false) (hi : g.l[i]? = some was) (hs : m.static ≠ ⟨#[]⟩) (hst : was.static = m.static) : JoinR g m now (finJ g (delM i g.l) { m with beat := now, joined := true, own := was.own } (decide (g.state = 2) && !decide (was.subs = m.subs)))
  | many (h : ChkG g) (hn : g.l.length = 64) : JoinR g m now (noG, 2)
  | new (h : ChkG g) (h2 : memOk { m with beat := now, joined := true } = true) (hno : hasId m.id g.l = false) (hs : m.static = ⟨#[]⟩ ∨ ∀ x ∈ g.l, x.static ≠ m.static) (hn : g.l.length < 64) : JoinR g m now (finJ g g.l { m with beat := now, joined := true, own := [] } (decide (g.state ≠ 1)))
end Go.Wm
namespace Go.Wm
open Go.RowKit Go.Proofs
def gotS (l : List Member) (tps : List Tp) (w : List Int) (p : Nat) : List Tp := (roundM l (outM l.length tps w)).getD p []
/-- What Sync tells. -/
structure SyncR (g : Group) (id : ByteArray) (gen now : Int) (tps : List Tp) (x : Group) (own : List Tp) (e : Int) : Prop where
  no : syncE g id gen now tps ≠ 0 → x = noG ∧ own = [] ∧ e = syncE g id gen now tps
  yes : syncE g id gen now tps = 0 → ∃ w, IsTgt g.l tps w ∧ own = gotS g.l tps w (posF (byId id) g.l) ∧ x = { g with l := setAt (posF (byId id) g.l) (setOwn own now) g.l } ∧ e = 0
theorem SyncR.same {g : Group} {id : ByteArray} {gen now : Int} {tps : List Tp} {x x' : Group} {own own' : List Tp} {e e' : Int} (h : SyncR g id gen now tps x own e) (h' : SyncR g id gen now tps x' own' e') : x = x' ∧ own = own' ∧ e = e' := by
  by_cases hz : syncE g id gen now tps = 0
  · obtain ⟨w, h1, h2, h3, h4⟩ := h.yes hz
    obtain ⟨w', k1, k2, k3, k4⟩ := h'.yes hz
    rw [h1.same k1] at h2
    have : own = own' := by rw [h2, k2]
    subst this
    exact ⟨by rw [h3, k3], rfl, by rw [h4, k4]⟩
  · obtain ⟨h1, h2, h3⟩ := h.no hz
    obtain ⟨k1, k2, k3⟩ := h'.no hz
    exact ⟨by rw [h1, k1], by rw [h2, k2], by rw [h3, k3]⟩
theorem set_perm {l : List Member} {p : Nat} {m m' : Member} (h : l[p]? = some m) : (l.set p m').Perm (m' :: delM p l) := by
  obtain ⟨hp, rfl⟩ := List.getElem?_eq_some_iff.1 h
  rw [List.set_eq_take_append_cons_drop, if_pos hp]
  exact List.perm_middle
theorem map_set_same {α : Type} {f : Member → α} {l : List Member} {p : Nat} {m m' : Member} (h : l[p]? = some m) (he : f m' = f m) : (l.set p m').map f = l.map f := by
  apply List.ext_getElem?
  intro i
  rw [List.getElem?_map, List.getElem?_map, List.getElem?_set]
  by_cases hi : p = i
  · subst hi
    obtain ⟨hlt, hpe⟩ := List.getElem?_eq_some_iff.1 h
    rw [if_pos rfl, if_pos hlt, h]
    simp [he]
  · rw [if_neg hi]
theorem LOk.set {l : List Member} {p : Nat} {m m' : Member} (h : LOk l) (hp : l[p]? = some m) (hid : m'.id = m.id) (hst : m'.static = m.static) (hok : memOk m' = true) (how : ∀ t ∈ m'.own, t ∉ owns (delM p l)) : LOk (l.set p m') := by
  obtain ⟨h1, h2⟩ := right_all.1 h.right
  obtain ⟨hlt, hpe⟩ := List.getElem?_eq_some_iff.1 hp
  have hids : (l.set p m').map (·.id) = l.map (·.id) := map_set_same hp hid
  have hsts : (l.set p m').map (·.static) = l.map (·.static) := map_set_same hp hst
  have pw : ∀ l : List Member, (l.Pairwise fun a b => ordId a b < 0) ↔ (l.map (·.id)).Pairwise fun a b => cmpStr a b < 0 := fun l => (List.pairwise_map (f := fun m : Member => m.id) (R := fun a b => cmpStr a b < 0)).symm
  refine ⟨right_all.2 ⟨fun x hx => ?_, ?_⟩, ?_, ?_⟩
  · rcases List.mem_or_eq_of_mem_set hx with hx | rfl
    · exact h1 x hx
    · exact hok
  · rw [pw, hids, ← pw]; exact h2
  · unfold statics; rw [hsts]; exact h.stat
  · rw [(owns_perm (set_perm (m' := m') hp)).nodup_iff, owns_cons]
    refine List.nodup_append.2 ⟨?_, h.own.sublist (ownsSub (del_sub p l)), fun a ha b hb e => how a ha (e ▸ hb)⟩
    exact ((right_iff ordL_tp).1 (memOk_right hok)).2.imp fun {a b} hlt he => by rw [he, ordTp_eq.2 rfl] at hlt; omega
theorem outM_subl {n i : Nat} {tps : List Tp} {w : List Int} {r : List Tp} (hw : w.length = tps.length) (h : (outM n tps w)[i]? = some r) : r.Sublist tps := by
  have hi : i < n := by
    have := (List.getElem?_eq_some_iff.1 h).1
    rwa [outM_len] at this
  rw [outM_get hi] at h
  cases h
  have := (List.filter_sublist (p := fun x : Tp × Int => decide (x.2 = (i : Int))) (l := tps.zip w)).map (·.1)
  rwa [List.map_fst_zip (by omega)] at this
theorem gotS_eq {l : List Member} {tps : List Tp} {w : List Int} {p : Nat} (hp : p < l.length) : gotS l tps w p = ((outM l.length tps w).getD p []).filter (giveB l p) := by
  unfold gotS roundM
  rw [List.getD_eq_getElem?_getD, List.getElem?_map, List.getElem?_range hp]
  rfl
theorem gotS_sub {l : List Member} {tps : List Tp} {w : List Int} {p : Nat} (hp : p < l.length) (hw : w.length = tps.length) : (gotS l tps w p).Sublist tps := by
  rw [gotS_eq hp]
  have hl : p < (outM l.length tps w).length := by rw [outM_len]; exact hp
  rw [List.getD_eq_getElem?_getD, List.getElem?_eq_getElem hl]
  exact List.filter_sublist.trans (outM_subl hw (List.getElem?_eq_getElem hl))
theorem stateG_set {l : List Member} {p : Nat} {m m' : Member} (h : l[p]? = some m) (hj : m'.joined = m.joined) : stateG (l.set p m') = stateG l := by
  unfold stateG
  rw [List.length_set]
  have : (l.set p m').any (fun m => !m.joined) = l.any fun m => !m.joined := by
    have e : ∀ l : List Member, l.any (fun m => !m.joined) = (l.map (·.joined)).any fun b => !b := fun l => by rw [List.any_map]; rfl
    rw [e, e, map_set_same h hj]
  rw [this]
theorem syncE_zero {g : Group} {id : ByteArray} {gen now : Int} {tps : List Tp} (h : syncE g id gen now tps = 0) : ChkG g ∧ timeOk now = true ∧ RightP ordTp tpOk tps ∧ hasId id g.l = true ∧ g.state ≠ 1 ∧ gen = g.gen := by
  unfold syncE at h
  split at h
  · rename_i h1; exact absurd h h1
  rename_i h1
  split at h
  · cases h
  rename_i h2
  split at h
  · cases h
  rename_i h3
  split at h
  · cases h
  rename_i h4
  split at h
  · cases h
  rename_i h5
  simp only [Bool.not_eq_false, Bool.and_eq_true, decide_eq_true_eq] at h2 h3
  exact ⟨chk_all (Decidable.not_not.1 h1), h2.1, h2.2, h3, h4, Decidable.not_not.1 h5⟩
end Go.Wm
namespace Go.Wm
open Go.RowKit
section
variable {P : Program} {F : Fr} {n : Nat} {ops : Array Oper} {Q : Exit → Act → World → Prop} {rest : List Oper} {o : Oper} {e : Env} {k : PH}
theorem EffS.elim {X : Nat → (Nat → Value) → PH → World → Prop} {q : Nat} {p : PV} (t : Nat) {φ : PH → Value → Prop} (hg : get e t = some (.such φ)) (ht : (o.looksAt ops).contains t = true) (hm : p.Mono) (hgd : o.guard = none) (h : ∀ v k1, Le k k1 → φ k1 v → EffS P F n ops X q o ((t, .is v) :: e) k1 p) : EffS P F n ops X q o e k p := by
  refine ⟨hm, hgd, fun a w k1 hk hs hX hsz hl => ?_⟩
  have hv := hl t (List.contains_iff_mem.1 ht) _ hg
  refine (h (a.tmps.getD t undef) k1 hk hv).2.2 a w k1 (Le.refl _) hs hX hsz fun u hu q hq => ?_
  by_cases htu : t = u
  · subst htu
    rw [get_cons_same] at hq
    cases hq
    rfl
  · rw [get_cons_other _ _ htu] at hq
    exact hl u hu q hq
/-- The call, all that it is handed known. -/
theorem eff_callM {x : Operand} {args : Array Operand} {ats : Array TypeId} {g : FuncId} {first cap : Array Value} {vs : List Value} [FnOk P g] {et sz m m' d : Nat} {v : Value} {xs xs' : List Value} {kb : PH} {φ : PH → Value → Prop} (hφm : ∀ k k' v, Le k k' → φ k v → φ k' v)
    (hd : o.dst = some d) (hg : o.guard = none) (hop : o.op = .call { callee := .value x, args := args, argTypes := ats }) (hx : opv e x = some (.func (.func g) first cap)) (ha : opvs e args.toList = some vs) (hkb : Le kb k)
    (hct : (∀ b, v.ownBlock = some b → k b = none) → ∀ k1, Le k k1 → Row F.w0.heap.size k1 et sz v m xs → CTMN P g (first ++ vs.toArray ++ cap) k1 F.w0.heap.size (fun b => v.ownBlock = some b) (fun k' u => Row F.w0.heap.size k' et sz u m' xs' ∧ φ k' u ∧ ∀ g, u.ownBlock = some g → v.ownBlock = some g ∨ k1 g = none)) :
    EffS P F n ops (XG F.w0.heap.size et sz v m xs) 0 o e k (.such fun k' v' => Row F.w0.heap.size k' et sz v' m' xs' ∧ φ k' v' ∧ Apart kb v') := by
  refine ⟨fun k k' v hle h => ⟨h.1.le hle, hφm _ _ _ hle h.2.1, h.2.2⟩, hg, fun a w k1 hk hs hX hsz hlo => ?_⟩
  obtain ⟨hN, hX⟩ := hX
  obtain ⟨hx0, hlack⟩ := hX rfl
  have hev := evs_of hlo
  have hrun := run_call (P := P) (w := w) hop hx ha hev
  have hs2 : St F (fun b => if v.ownBlock = some b then w.heap[b]? else k1 b) w := by
    refine ⟨hs.os, hs.tape, hs.output, hs.size, hs.old, fun b ob hb => ?_, fun b hb hmu => ?_⟩
    · by_cases e : v.ownBlock = some b
      · simpa [e] using hb
      · simp only [e, if_false] at hb
        exact hs.sub b ob hb
    · have : v.ownBlock ≠ some b := fun e => by have := (hx0.block e).1; omega
      simp only [this, if_false]
      exact hs.keep b hb hmu
  have hrow2 : Row F.w0.heap.size (fun b => if v.ownBlock = some b then w.heap[b]? else k1 b) et sz v m xs := hx0.at fun g hg => by simp [hg, wPH]
  have hle : Le k1 (fun b => if v.ownBlock = some b then w.heap[b]? else k1 b) := fun b ob hb => by
    have : v.ownBlock ≠ some b := fun e => by rw [(hlack b e).1] at hb; cases hb
    simp only [this, if_false]
    exact hb
  have hno : ∀ b, v.ownBlock = some b → k b = none := fun b hb => by
    cases hc : k b with
    | none => rfl
    | some ob => have := hk _ _ hc; rw [(hlack b hb).1] at this; cases this
  have hcall := hct hno _ (hk.trans hle) hrow2
  generalize hk2 : (fun b => if v.ownBlock = some b then w.heap[b]? else k1 b) = k2 at hs2 hrow2 hle hcall
  refine (ex_enter (φ := fun u w' => ∃ k', Le k1 k' ∧ St F k' w' ∧ w.heap.size ≤ w'.heap.size ∧ Row F.w0.heap.size k' et sz u m' xs' ∧ φ k' u ∧ Apart kb u) hrun ((hcall w hs2.sub hs.size).mono ?_)).mono ?_
  · rintro en w' ⟨u, k', h1, ⟨h2a, h2b, h2c, h2d⟩, h3, h4, h5, h6, h7, h8⟩
    have hM : ∀ b, v.ownBlock = some b → F.w0.heap.size ≤ b := fun b hb => (hx0.block hb).1
    refine ⟨u, h1, k', fun b ob hb => ?_, ⟨h2a.trans hs.os, h2b.trans hs.tape, h2c.trans hs.output, Nat.le_trans hs.size h2d, fun b hb hm => ?_, h5, fun b hb hm => ?_⟩, h2d, h6, h7, fun gg hgg => ?_⟩
    · have hnm : v.ownBlock ≠ some b := fun hm => by rw [(hlack b hm).1] at hb; cases hb
      rw [h4 b (hs.sub.lt hb) hnm]
      exact hle b ob hb
    · have hnm : v.ownBlock ≠ some b := fun hm' => by have := hM b hm'; omega
      rw [h3 b (Nat.lt_of_lt_of_le hb hs.size) hnm]
      exact hs.old b hb hm
    · have hnm : v.ownBlock ≠ some b := fun hm' => by have := hM b hm'; omega
      rw [h4 b (Nat.lt_of_lt_of_le hb hs.size) hnm]
      exact hs2.keep b hb hm
    · cases hc : kb gg with
      | none => rfl
      | some ob =>
        have hc1 := (hkb.trans hk) _ _ hc
        rcases h8 gg hgg with h9 | h9
        · rw [(hlack gg h9).1] at hc1; cases hc1
        · have hn : v.ownBlock ≠ some gg := fun e => by rw [(hlack gg e).1] at hc1; cases hc1
          rw [if_neg hn, hc1] at h9; cases h9
  · rintro u w' ⟨k', h1, h2, h3, h4, h5, h6⟩
    exact ⟨k', h1, h2, ⟨Nat.le_trans hN h3, fun h => by omega⟩, h4, h5, h6⟩
end
end Go.Wm
namespace Go.Wm
open Go.RowKit Go.Proofs
theorem fence_eq (g : Group) (id : ByteArray) (gen : Int) {i : Nat} (hf : FindAt id g.l i) : wantE (wantE (chkG g) (metAt id g.l i || !true) 230) (decide (gen = g.gen)) 231 = fenceG g id gen := by
  unfold fenceG
  by_cases h : chkG g = 0
  · have hr := chk_right h
    rw [hf.pos hr, met_has hr]
    cases hasId id g.l
    · simp [h, wantE]
    · by_cases h2 : gen = g.gen <;> simp [h, wantE, h2]
  · rw [wantE_ne h, wantE_ne h, if_pos h]
attribute [local irreducible] RG CG EG WA Loc Det Alc CT Exit.then Exit.inBlock Code.wp bodyPost
set_option maxHeartbeats 400000 in
theorem new_ct {k : PH} (n : ByteArray) (hn : n.size ≤ maxLen) : CT Tryz.prog 19 #[.string n] k (GrpV (newG n)) := by
  refine ct_of_body (l := [_]) Tryz.func19 rfl Tryz.ntmps19 (by simp) GrpV.mono fun F hF0 hFm => ?_
  unfold newG
  repeat (first | refine cg_seq ?_ | refine cg_region ?_)
  refine rb rfl rfl rfl rfl (a_alloc rfl) ?_; intro b2 k2 hb2 hN2 hle2 hk2
  repeat (first | refine cg_seq ?_ | refine cg_region ?_ | refine rg_nil ?_ | refine eg_then ?_ | refine qsp ?_)
  refine rs rfl rfl (loc_call_is rfl rfl rfl rfl (name_ct n hn)) ?_
  cases q1 : isName n
  · repeat (first | refine cg_seq ?_ | refine cg_region ?_ | refine rg_nil ?_ | refine eg_then ?_ | refine qsp ?_ | refine cg_cond_true rfl ?_)
    refine rs rfl rfl (loc_det rfl (d_lit (cells := noG.cs none 0) rfl rfl rfl)) ?_
    refine rw1 (vs := noG.cs none 0) rfl rfl rfl rfl rfl rfl rfl hk2 rfl (.inl hN2) (by simp [Group.cs, Value.oneCell']) ?_
    intro k3 ht3 hk3
    repeat (first | refine rg_nil ?_ | refine eg_then ?_ | refine qsp ?_ | refine cg_ret ?_ | refine eg_then_ret ?_)
    exact eg_returnC2 rfl rfl rfl rfl (cells_at (vs := noG.cs none 0) hk3 rfl) rfl ⟨none, 0, rfl, sl_nilM _⟩
  repeat (first | refine cg_seq ?_ | refine cg_region ?_ | refine rg_nil ?_ | refine eg_then ?_ | refine qsp ?_ | refine cg_cond_false rfl ?_ | refine cg_skip ?_)
  refine rs rfl rfl (loc_det rfl (d_lit (cells := (⟨n, 0, 0, []⟩ : Group).cs none 0) rfl rfl rfl)) ?_
  refine rw1 (vs := (⟨n, 0, 0, []⟩ : Group).cs none 0) rfl rfl rfl rfl rfl rfl rfl hk2 rfl (.inl hN2) (by simp [Group.cs, Value.oneCell']) ?_
  intro k3 ht3 hk3
  repeat (first | refine rg_nil ?_ | refine eg_then ?_ | refine qsp ?_ | refine cg_ret ?_)
  exact eg_returnC2 rfl rfl rfl rfl (cells_at (vs := (⟨n, 0, 0, []⟩ : Group).cs none 0) hk3 rfl) rfl ⟨none, 0, rfl, sl_nilM _⟩
set_option maxHeartbeats 1000000 in
theorem fence_ct {k : PH} {g : Group} {a : Option Addr} {c : Nat} (hl : Sl tMember k a c g.l) (hok : g.ok) (hsm : SmallG g) (id : ByteArray) (gen : Int) : CT Tryz.prog 17 #[.agg (g.cs a c).toArray, .string id, .int .i64 gen] k (fun _ v => v = .int .i64 (fenceG g id gen)) := by
  refine ct_of_body (l := [_, _, _]) Tryz.func17 rfl Tryz.ntmps17 (by simp) (fun _ _ _ _ h => h) fun F hF0 hFm => ?_
  have hb : g.l.length ≤ 1000000000000000 := by have := hsm.1; omega
  repeat (first | refine cg_seq ?_ | refine cg_region ?_)
  refine rb rfl rfl rfl rfl (a_box rfl rfl) ?_; intro b1 k1 hb1 hN1 hle1 hk1
  have hl := hl.le hle1
  have cg1 := cells_at (vs := g.cs a c) hk1 rfl
  repeat (first | refine cg_seq ?_ | refine cg_region ?_ | refine rg_nil ?_ | refine eg_then ?_ | refine qsp ?_ | refine qsg ?_)
  refine rvn rfl rfl rfl rfl rfl rfl rfl (keep_ctn hl hok hsm) ?_
  rintro N k2 _ hN2 _ hle2 ⟨bk, KK, v, rfl, hk⟩
  have hbn : F.w0.heap.size ≤ bk := Nat.le_trans hN2 hk.nb
  repeat (first | refine cg_seq ?_ | refine cg_region ?_ | refine rg_nil ?_ | refine eg_then ?_ | refine qsp ?_)
  refine rcm rfl rfl rfl rfl rfl rfl rfl (find_ctm hk hb id true) (fun b hb => .inl (by rw [hb]; exact hbn)) ?_
  rintro _ k3 _ ⟨i, rfl, hfa, h3⟩
  have c1 := (cells_at (vs := kCells g v (wantE (chkG g) (metAt id g.l i || !true) 230)) h3.at' rfl).one (i := 1) rfl
  repeat (first | refine cg_seq ?_ | refine cg_region ?_ | refine rg_nil ?_ | refine eg_then ?_ | refine qsp ?_ | refine qsl ?_ | refine qsf ?_)
  refine rcm rfl rfl rfl rfl rfl rfl rfl (want_ctm h3 (decide (gen = g.gen)) 231) (fun b hb => .inl (by rw [hb]; exact hbn)) ?_
  rintro _ k4 _ ⟨rfl, h4⟩
  rw [fence_eq g id gen hfa] at h4
  have c4 := (cells_at (vs := kCells g v (fenceG g id gen)) h4.at' rfl).one (i := 4) rfl
  repeat (first | refine cg_seq ?_ | refine cg_region ?_ | refine rg_nil ?_ | refine eg_then ?_ | refine qsp ?_ | refine qsl ?_ | refine qsf ?_ | refine cg_ret ?_)
  exact eg_return rfl rfl rfl
end Go.Wm

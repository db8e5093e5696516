/-
  A group that is changed, the program's: what is wanted, who is found, a round, what is told. Conditions: that the group lies in memory as it should.
-/
import Derived.Test.YtbhgbfhgdccghaaN5
import Derived.Test.YtbhgbfhgdccghaaK3
set_option linter.all false
namespace Go.Wm
open Go.RowKit Go.Proofs
theorem KeepAt.turn {N : Nat} {KK k k' : PH} {bk : Nat} {v : Value} {g g' : Group} {e e' : Int} (h : KeepAt N KK k bk v g e) (ht : Turn1 k k' bk) (hk : k' bk = some (.cells (kCells g' v e').toArray 77 (0, 0))) (hl : g'.l = g.l) : KeepAt N KK k' bk v g' e' := by
  obtain ⟨css, h1, h2, h3⟩ := h.row
  exact ⟨hk, h.nb, ht KK h.le h.kb, h.kb, h.ap, css, by rw [hl]; exact h1, by rw [hl]; exact h2.turnY ht h.at' (by decide), by rw [hl]; exact h3⟩
theorem KeepAt0.turn {N : Nat} {KK k k' : PH} {bk : Nat} {v : Value} {g g' : Group} {e e' : Int} (h : KeepAt0 N KK k bk v g e) (ht : Turn1 k k' bk) (hk : k' bk = some (.cells (kCells g' v e').toArray 77 (0, 0))) (hl : g'.l = g.l) : KeepAt0 N KK k' bk v g' e' := by
  obtain ⟨css, h1, h2⟩ := h.row
  exact ⟨hk, h.nb, ht KK h.le h.kb, h.kb, h.ap, css, by rw [hl]; exact h1, by rw [hl]; exact h2.turnY ht h.at' (by decide)⟩
theorem pairwise_set {α : Type} {R : α → α → Prop} (hs : ∀ a b, R a b → R b a) {l : List α} {i : Nat} {x : α} (h : l.Pairwise R) (hx : ∀ j y, l[j]? = some y → j ≠ i → R y x) : (l.set i x).Pairwise R := by
  rw [List.pairwise_iff_getElem] at h ⊢
  intro p q hp hq hpq
  rw [List.length_set] at hp hq
  rw [List.getElem_set, List.getElem_set]
  by_cases h1 : i = p
  · rw [if_pos h1, if_neg (by omega)]
    exact hs _ _ (hx q _ (List.getElem?_eq_getElem hq) (by omega))
  · rw [if_neg h1]
    by_cases h2 : i = q
    · rw [if_pos h2]
      exact hx p _ (List.getElem?_eq_getElem hp) (by omega)
    · rw [if_neg h2]; exact h p q hp hq hpq
theorem OwnsAt.set {N : Nat} {k : PH} {css : List (List Value)} {l : List Member} {i : Nat} {cs cs' : List Value} {m m' : Member} (h : OwnsAt N k css l) (hcs : css[i]? = some cs) (hm : l[i]? = some m) (hr : MemRow N k cs m → MemRow N k cs' m') (ho : cs'.getD 3 undef = cs.getD 3 undef) : OwnsAt N k (css.set i cs') (l.set i m') := by
  refine ⟨?_, pairwise_set (fun a b => ownNe.symm) h.ne fun j y hy hj => ?_⟩
  · intro j c x e1 e2
    obtain ⟨h1, _⟩ := List.getElem?_eq_some_iff.1 hcs
    obtain ⟨h2, _⟩ := List.getElem?_eq_some_iff.1 hm
    rw [List.getElem?_set] at e1 e2
    by_cases hij : i = j
    · subst hij
      rw [if_pos rfl, if_pos h1] at e1
      rw [if_pos rfl, if_pos h2] at e2
      cases e1
      cases e2
      exact hr (h.rows i cs m hcs hm)
    · rw [if_neg hij] at e1 e2
      exact h.rows j c x e1 e2
  · have : ownNe y cs := by
      obtain ⟨h1, rfl⟩ := List.getElem?_eq_some_iff.1 hcs
      obtain ⟨h2, rfl⟩ := List.getElem?_eq_some_iff.1 hy
      have hp := List.pairwise_iff_getElem.1 h.ne
      rcases Nat.lt_or_gt_of_ne hj with hlt | hlt
      · exact hp j i h2 h1 hlt
      · exact (hp i j h1 h2 hlt).symm
    intro g h1
    rw [ho]; exact this g h1
/-- What a group's change tells. -/
def GrpV (q : Group × Int) (k : PH) (v : Value) : Prop := ∃ a c, v = .tuple #[.agg (q.1.cs a c).toArray, .int .i64 q.2] ∧ Sl tMember k a c q.1.l
theorem GrpV.mono {q : Group × Int} : ∀ k k' v, Le k k' → GrpV q k v → GrpV q k' v := fun k k' v hle ⟨a, c, h1, h2⟩ => ⟨a, c, h1, h2.le hle⟩
/-- What a group's change tells: its members lie in a row of the call's own. -/
def GrpR (N : Nat) (KK : PH) (q : Group × Int) (k : PH) (v : Value) : Prop := ∃ a c css, v = .tuple #[.agg (q.1.cs a c).toArray, .int .i64 q.2] ∧ Pieces tMember KK css q.1.l ∧ Row N k 38 6 (.slice a q.1.l.length c) q.1.l.length css.flatten
theorem GrpR.sl {N : Nat} {KK k : PH} {a : Option Addr} {c : Nat} {l : List Member} {css : List (List Value)} (hp : Pieces tMember KK css l) (hr : Row N k 38 6 (.slice a l.length c) l.length css.flatten) (hle : Le KK k) : Sl tMember k a c l := by
  obtain ⟨a', c', e', s'⟩ := hr.sls (T := tMember) (hp.le hle)
  cases e'
  exact s'
/-- A call that makes blocks, made with less than is known. -/
theorem rvnh {P : Program} {F : Fr} {n : Nat} {ops : Array Oper} {Q : Exit → Act → World → Prop} {rest : List Oper} {o : Oper} {e : Env} {k h : PH} {x : Operand} {args : Array Operand} {ats : Array TypeId} {g : FuncId} {first cap : Array Value} {vs : List Value} [FnOk P g] {φ : Nat → PH → Value → Prop} {d : Nat}
    (hd : o.dst = some d) (hf : Nat.blt d n = true) (hdet : det e = true) (hgd : o.guard = none) (hop : o.op = .call { callee := .value x, args := args, argTypes := ats }) (hx : opv e x = some (.func (.func g) first cap)) (ha : opvs e args.toList = some vs)
    (hle : Le h k) (hct : CTN P g (first ++ vs.toArray ++ cap) h φ)
    (hh : ∀ N k2 k' v, F.w0.heap.size ≤ N → (∀ b, N ≤ b → k b = none) → Le h k2 → (∀ b o, k b = some o → k2 b = h b) → Le k k' → Le k2 k' → φ N k2 v → RG P F n ops Q rest ((d, .is v) :: e) k') : RG P F n ops Q (o :: rest) e k := by
  intro a w hag hs
  unfold wpList
  rw [if_pos (by simp [Region.wanted, hgd])]
  refine .inl (ex_enter (run_call hop hx ha (evs_of (ops := ops) (ag_looks hag))) (φ := fun v w' => ∃ k2 k', (∀ b, w.heap.size ≤ b → k b = none) ∧ Le h k2 ∧ (∀ b o, k b = some o → k2 b = h b) ∧ Le k k' ∧ Le k2 k' ∧ φ w.heap.size k2 v ∧ St F k' w') ((hct w h (Le.refl _) (hs.sub.mono hle)).mono ?_) _ _ ?_)
  · rintro en w' ⟨v, k2, h1, h2, h3, h4, h5⟩
    have hag' : Agr w.heap.size k (fun b => if b < w.heap.size then k b else k2 b) := fun b hb => by simp [hb]
    have hsub' : Sub (fun b => if b < w.heap.size then k b else k2 b) w' := fun b ob hb => by
      by_cases hbl : b < w.heap.size
      · simp only [hbl, if_true] at hb
        rw [h2.block b hbl]; exact hs.sub b ob hb
      · simp only [hbl, if_false] at hb
        exact h4 b ob hb
    refine ⟨v, h1, k2, fun b => if b < w.heap.size then k b else k2 b, fun b hb => hs.sub.none hb, h3.le (hs.sub.mono hle), fun b o hb => h3 b (hs.sub.lt hb), hag'.le hs.sub, fun b ob hb => ?_, h5, hs.step h2 hag' hsub'⟩
    by_cases hbl : b < w.heap.size
    · simp only [hbl, if_true]
      have := h3 b hbl
      rw [this] at hb
      exact hle b ob hb
    · simp only [hbl, if_false]; exact hb
  · rintro v w' ⟨k2, k', h0, h1, h2, h3, h4, h5, h6⟩
    refine hh w.heap.size k2 k' v hs.size h0 h1 h2 h3 h4 h5 _ _ ?_ h6
    rw [hd]
    exact (hag.heap (k' := k') hdet).put (d := some d) (p := .is v) hf rfl
theorem sl_nilM (k : PH) : Sl tMember k none 0 [] := ⟨by simp, by simp [maxLen], fun _ => rfl, by simp, by simp⟩
attribute [local irreducible] RG CG EG WA Loc Det Alc CT Exit.then Exit.inBlock Code.wp bodyPost
set_option maxHeartbeats 400000 in
theorem want_ctm {N : Nat} {KK k : PH} {bk : Nat} {v : Value} {g : Group} {e : Int} (h : KeepAt N KK k bk v g e) (b : Bool) (er : Int) :
    CTM Try.prog 41 #[.pointer (some ⟨bk, 0, none⟩), .bool b, .int .i64 er] k (fun x => x = bk) (fun k' u => u = .tuple #[] ∧ KeepAt N KK k' bk v g (wantE e b er)) := by
  refine ctm_of_body (l := [_, _, _]) Try.func41 rfl Try.ntmps41 (by simp) fun F hF0 hFm hlt => ?_
  have c4 := (cells_at (vs := kCells g v e) h.at' rfl).one (i := 4) rfl
  repeat (first | refine cg_seq ?_ | refine cg_region ?_ | refine rg_nil ?_ | refine eg_then ?_ | refine qsp ?_ | refine qsn ?_ | refine qsa ?_ | refine qss ?_ | refine qsi ?_ | refine qsz ?_ | refine qsl ?_ | refine qsg ?_ | refine qsf ?_ | refine qsd ?_ | refine qsE ?_ | refine qsX ?_ | refine qse ?_ | refine qsx ?_ | refine qso ?_ | refine cg_cond_true rfl ?_ | refine cg_cond_false rfl ?_ | refine cg_skip ?_ | refine cg_block ?_ | refine eg_in_normal ?_ | refine cg_ret ?_ | refine eg_then_ret ?_ | refine eg_in_ret ?_ | refine cg_exit ?_ | refine eg_then_exit ?_ | refine eg_in_exit ?_ | refine eg_in_other rfl ?_)
  cases q1 : (e == 0)
  · have : e ≠ 0 := by simpa using q1
    repeat (first | refine cg_seq ?_ | refine cg_region ?_ | refine rg_nil ?_ | refine eg_then ?_ | refine qsp ?_ | refine qsn ?_ | refine qsa ?_ | refine qss ?_ | refine qsi ?_ | refine qsz ?_ | refine qsl ?_ | refine qsg ?_ | refine qsf ?_ | refine qsd ?_ | refine qsE ?_ | refine qsX ?_ | refine qse ?_ | refine qsx ?_ | refine qso ?_ | refine cg_cond_true rfl ?_ | refine cg_cond_false rfl ?_ | refine cg_skip ?_ | refine cg_block ?_ | refine eg_in_normal ?_ | refine cg_ret ?_ | refine eg_then_ret ?_ | refine eg_in_ret ?_ | refine cg_exit ?_ | refine eg_then_exit ?_ | refine eg_in_exit ?_ | refine eg_in_other rfl ?_)
    refine eg_done rfl ⟨rfl, ?_⟩
    unfold wantE; rw [if_neg (fun hh => this hh.1)]; exact h
  have q1 : e = 0 := by simpa using q1
  cases b
  · repeat (first | refine cg_seq ?_ | refine cg_region ?_ | refine rg_nil ?_ | refine eg_then ?_ | refine qsp ?_ | refine qsn ?_ | refine qsa ?_ | refine qss ?_ | refine qsi ?_ | refine qsz ?_ | refine qsl ?_ | refine qsg ?_ | refine qsf ?_ | refine qsd ?_ | refine qsE ?_ | refine qsX ?_ | refine qse ?_ | refine qsx ?_ | refine qso ?_ | refine cg_cond_true rfl ?_ | refine cg_cond_false rfl ?_ | refine cg_skip ?_ | refine cg_block ?_ | refine eg_in_normal ?_ | refine cg_ret ?_ | refine eg_then_ret ?_ | refine eg_in_ret ?_ | refine cg_exit ?_ | refine eg_then_exit ?_ | refine eg_in_exit ?_ | refine eg_in_other rfl ?_)
    refine rw0 rfl rfl rfl rfl rfl rfl rfl rfl h.at' (by show _ < 5; omega) (.inr (by rw [hFm])) ?_; intro k2 ht2 hk2
    repeat (first | refine cg_seq ?_ | refine cg_region ?_ | refine rg_nil ?_ | refine eg_then ?_ | refine qsp ?_ | refine qsn ?_ | refine qsa ?_ | refine qss ?_ | refine qsi ?_ | refine qsz ?_ | refine qsl ?_ | refine qsg ?_ | refine qsf ?_ | refine qsd ?_ | refine qsE ?_ | refine qsX ?_ | refine qse ?_ | refine qsx ?_ | refine qso ?_ | refine cg_cond_true rfl ?_ | refine cg_cond_false rfl ?_ | refine cg_skip ?_ | refine cg_block ?_ | refine eg_in_normal ?_ | refine cg_ret ?_ | refine eg_then_ret ?_ | refine eg_in_ret ?_ | refine cg_exit ?_ | refine eg_then_exit ?_ | refine eg_in_exit ?_ | refine eg_in_other rfl ?_)
    refine eg_done rfl ⟨rfl, ?_⟩
    unfold wantE; rw [if_pos ⟨q1, rfl⟩]
    exact h.turn ht2 hk2 rfl
  · repeat (first | refine cg_seq ?_ | refine cg_region ?_ | refine rg_nil ?_ | refine eg_then ?_ | refine qsp ?_ | refine qsn ?_ | refine qsa ?_ | refine qss ?_ | refine qsi ?_ | refine qsz ?_ | refine qsl ?_ | refine qsg ?_ | refine qsf ?_ | refine qsd ?_ | refine qsE ?_ | refine qsX ?_ | refine qse ?_ | refine qsx ?_ | refine qso ?_ | refine cg_cond_true rfl ?_ | refine cg_cond_false rfl ?_ | refine cg_skip ?_ | refine cg_block ?_ | refine eg_in_normal ?_ | refine cg_ret ?_ | refine eg_then_ret ?_ | refine eg_in_ret ?_ | refine cg_exit ?_ | refine eg_then_exit ?_ | refine eg_in_exit ?_ | refine eg_in_other rfl ?_)
    refine eg_done rfl ⟨rfl, ?_⟩
    unfold wantE; rw [if_neg (fun hh => by cases hh.2)]; exact h
theorem find1_ct {k : PH} {m : Member} {cm : List Value} (hm : tMember.rep k cm m) (id : ByteArray) : CT Try.prog 74 #[.agg cm.toArray, .string id] k (fun _ v => v = .int .i64 (byId id m)) := by
  obtain ⟨a0, c0, a1, c1, rfl, _, _⟩ := hm
  refine ct_of_body (l := [_, _]) Try.func74 rfl Try.ntmps74 (by simp) (fun _ _ _ _ h => h) fun F hF0 hFm => ?_
  repeat (first | refine cg_seq ?_ | refine cg_region ?_ | refine rg_nil ?_ | refine eg_then ?_ | refine qsp ?_ | refine qsn ?_ | refine qsa ?_ | refine qss ?_ | refine qsi ?_ | refine qsz ?_ | refine qsl ?_ | refine qsg ?_ | refine qsf ?_ | refine qsd ?_ | refine qsE ?_ | refine qsX ?_ | refine qse ?_ | refine qsx ?_ | refine qso ?_ | refine cg_cond_true rfl ?_ | refine cg_cond_false rfl ?_ | refine cg_skip ?_ | refine cg_block ?_ | refine eg_in_normal ?_ | refine cg_ret ?_ | refine eg_then_ret ?_ | refine eg_in_ret ?_ | refine cg_exit ?_ | refine eg_then_exit ?_ | refine eg_in_exit ?_ | refine eg_in_other rfl ?_)
  refine rb rfl rfl rfl rfl (a_box rfl rfl) ?_; intro b2 k2 hb2 hN2 hle2 hk2
  obtain ⟨p0, p1, p2, p3, p4, p5⟩ := Member.parts (cells_at (vs := m.cs a0 c0 a1 c1) hk2 rfl)
  repeat (first | refine cg_seq ?_ | refine cg_region ?_ | refine rg_nil ?_ | refine eg_then ?_ | refine qsp ?_ | refine qsn ?_ | refine qsa ?_ | refine qss ?_ | refine qsi ?_ | refine qsz ?_ | refine qsl ?_ | refine qsg ?_ | refine qsf ?_ | refine qsd ?_ | refine qsE ?_ | refine qsX ?_ | refine qse ?_ | refine qsx ?_ | refine qso ?_ | refine cg_cond_true rfl ?_ | refine cg_cond_false rfl ?_ | refine cg_skip ?_ | refine cg_block ?_ | refine eg_in_normal ?_ | refine cg_ret ?_ | refine eg_then_ret ?_ | refine eg_in_ret ?_ | refine cg_exit ?_ | refine eg_then_exit ?_ | refine eg_in_exit ?_ | refine eg_in_other rfl ?_)
  refine rs rfl rfl (loc_call_is rfl rfl rfl rfl (strCompare_ct m.id id)) ?_
  repeat (first | refine cg_seq ?_ | refine cg_region ?_ | refine rg_nil ?_ | refine eg_then ?_ | refine qsp ?_ | refine qsn ?_ | refine qsa ?_ | refine qss ?_ | refine qsi ?_ | refine qsz ?_ | refine qsl ?_ | refine qsg ?_ | refine qsf ?_ | refine qsd ?_ | refine qsE ?_ | refine qsX ?_ | refine qse ?_ | refine qsx ?_ | refine qso ?_ | refine cg_cond_true rfl ?_ | refine cg_cond_false rfl ?_ | refine cg_skip ?_ | refine cg_block ?_ | refine eg_in_normal ?_ | refine cg_ret ?_ | refine eg_then_ret ?_ | refine eg_in_ret ?_ | refine cg_exit ?_ | refine eg_then_exit ?_ | refine eg_in_exit ?_ | refine eg_in_other rfl ?_)
  exact eg_return rfl rfl rfl
set_option maxHeartbeats 400000 in
theorem find_ctm {N : Nat} {KK k : PH} {bk : Nat} {v : Value} {g : Group} {e : Int} (h : KeepAt N KK k bk v g e) (hb : g.l.length ≤ 1000000000000000) (id : ByteArray) (wanted : Bool) :
    CTM Try.prog 45 #[.pointer (some ⟨bk, 0, none⟩), .string id, .bool wanted] k (fun x => x = bk) (fun k' u => ∃ i : Nat, u = .tuple #[.int .i64 (i : Int), .bool (metAt id g.l i)] ∧ FindAt id g.l i ∧ KeepAt N KK k' bk v g (wantE e (metAt id g.l i || !wanted) 230)) := by
  refine ctm_of_body (l := [_, _, _]) Try.func45 rfl Try.ntmps45 (by simp) fun F hF0 hFm hlt => ?_
  obtain ⟨a, c, rfl, hsl⟩ := h.sl
  have c3 := (cells_at (vs := kCells g (.slice a g.l.length c) e) h.at' rfl).one (i := 3) rfl
  repeat (first | refine cg_seq ?_ | refine cg_region ?_ | refine rg_nil ?_ | refine eg_then ?_ | refine qsp ?_ | refine qsn ?_ | refine qsa ?_ | refine qss ?_ | refine qsi ?_ | refine qsz ?_ | refine qsl ?_ | refine qsg ?_ | refine qsf ?_ | refine qsd ?_ | refine qsE ?_ | refine qsX ?_ | refine qse ?_ | refine qsx ?_ | refine qso ?_ | refine cg_cond_true rfl ?_ | refine cg_cond_false rfl ?_ | refine cg_skip ?_ | refine cg_block ?_ | refine eg_in_normal ?_ | refine cg_ret ?_ | refine eg_then_ret ?_ | refine eg_in_ret ?_ | refine cg_exit ?_ | refine eg_then_exit ?_ | refine eg_in_exit ?_ | refine eg_in_other rfl ?_)
  refine rv rfl rfl rfl (loc_call rfl rfl rfl rfl (fun _ _ _ _ h => h) (binSearchWMem_ct hsl hb (g := 74) (cap := #[]) (.string id) (byId id) (fun k0 _ m _ cm hcm => find1_ct hcm id))) ?_
  rintro k1 hle1 _ ⟨i, rfl, hi, hpos⟩
  have h := h.up hle1
  have hfa : FindAt id g.l i := ⟨hi, fun hr => hpos (byId_split hr)⟩
  have hme : decide ((g.l[i]?).map (byId id) = some 0) = metAt id g.l i := rfl
  rw [hme]
  clear c3
  repeat (first | refine cg_seq ?_ | refine cg_region ?_ | refine rg_nil ?_ | refine eg_then ?_ | refine qsp ?_ | refine qsn ?_ | refine qsa ?_ | refine qss ?_ | refine qsi ?_ | refine qsz ?_ | refine qsl ?_ | refine qsg ?_ | refine qsf ?_ | refine qsd ?_ | refine qsE ?_ | refine qsX ?_ | refine qse ?_ | refine qsx ?_ | refine qso ?_ | refine cg_cond_true rfl ?_ | refine cg_cond_false rfl ?_ | refine cg_skip ?_ | refine cg_block ?_ | refine eg_in_normal ?_ | refine cg_ret ?_ | refine eg_then_ret ?_ | refine eg_in_ret ?_ | refine cg_exit ?_ | refine eg_then_exit ?_ | refine eg_in_exit ?_ | refine eg_in_other rfl ?_)
  cases q1 : metAt id g.l i
  · repeat (first | refine cg_seq ?_ | refine cg_region ?_ | refine rg_nil ?_ | refine eg_then ?_ | refine qsp ?_ | refine qsn ?_ | refine qsa ?_ | refine qss ?_ | refine qsi ?_ | refine qsz ?_ | refine qsl ?_ | refine qsg ?_ | refine qsf ?_ | refine qsd ?_ | refine qsE ?_ | refine qsX ?_ | refine qse ?_ | refine qsx ?_ | refine qso ?_ | refine cg_cond_true rfl ?_ | refine cg_cond_false rfl ?_ | refine cg_skip ?_ | refine cg_block ?_ | refine eg_in_normal ?_ | refine cg_ret ?_ | refine eg_then_ret ?_ | refine eg_in_ret ?_ | refine cg_exit ?_ | refine eg_then_exit ?_ | refine eg_in_exit ?_ | refine eg_in_other rfl ?_)
    refine rcm rfl rfl rfl rfl rfl rfl rfl (want_ctm h (!wanted) 230) (fun b hb => .inr (by rw [hFm]; exact hb)) ?_
    rintro _ k2 _ ⟨rfl, h2⟩
    repeat (first | refine cg_seq ?_ | refine cg_region ?_ | refine rg_nil ?_ | refine eg_then ?_ | refine qsp ?_ | refine qsn ?_ | refine qsa ?_ | refine qss ?_ | refine qsi ?_ | refine qsz ?_ | refine qsl ?_ | refine qsg ?_ | refine qsf ?_ | refine qsd ?_ | refine qsE ?_ | refine qsX ?_ | refine qse ?_ | refine qsx ?_ | refine qso ?_ | refine cg_cond_true rfl ?_ | refine cg_cond_false rfl ?_ | refine cg_skip ?_ | refine cg_block ?_ | refine eg_in_normal ?_ | refine cg_ret ?_ | refine eg_then_ret ?_ | refine eg_in_ret ?_ | refine cg_exit ?_ | refine eg_then_exit ?_ | refine eg_in_exit ?_ | refine eg_in_other rfl ?_)
    exact eg_return2 rfl rfl rfl ⟨i, by rw [q1]; rfl, hfa, by rw [q1]; exact h2⟩
  · repeat (first | refine cg_seq ?_ | refine cg_region ?_ | refine rg_nil ?_ | refine eg_then ?_ | refine qsp ?_ | refine qsn ?_ | refine qsa ?_ | refine qss ?_ | refine qsi ?_ | refine qsz ?_ | refine qsl ?_ | refine qsg ?_ | refine qsf ?_ | refine qsd ?_ | refine qsE ?_ | refine qsX ?_ | refine qse ?_ | refine qsx ?_ | refine qso ?_ | refine cg_cond_true rfl ?_ | refine cg_cond_false rfl ?_ | refine cg_skip ?_ | refine cg_block ?_ | refine eg_in_normal ?_ | refine cg_ret ?_ | refine eg_then_ret ?_ | refine eg_in_ret ?_ | refine cg_exit ?_ | refine eg_then_exit ?_ | refine eg_in_exit ?_ | refine eg_in_other rfl ?_)
    refine rcm rfl rfl rfl rfl rfl rfl rfl (want_ctm h true 230) (fun b hb => .inr (by rw [hFm]; exact hb)) ?_
    rintro _ k2 _ ⟨rfl, h2⟩
    repeat (first | refine cg_seq ?_ | refine cg_region ?_ | refine rg_nil ?_ | refine eg_then ?_ | refine qsp ?_ | refine qsn ?_ | refine qsa ?_ | refine qss ?_ | refine qsi ?_ | refine qsz ?_ | refine qsl ?_ | refine qsg ?_ | refine qsf ?_ | refine qsd ?_ | refine qsE ?_ | refine qsX ?_ | refine qse ?_ | refine qsx ?_ | refine qso ?_ | refine cg_cond_true rfl ?_ | refine cg_cond_false rfl ?_ | refine cg_skip ?_ | refine cg_block ?_ | refine eg_in_normal ?_ | refine cg_ret ?_ | refine eg_then_ret ?_ | refine eg_in_ret ?_ | refine cg_exit ?_ | refine eg_then_exit ?_ | refine eg_in_exit ?_ | refine eg_in_other rfl ?_)
    exact eg_return2 rfl rfl rfl ⟨i, by rw [q1]; rfl, hfa, by rw [q1]; exact h2⟩
end Go.Wm

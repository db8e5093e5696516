/-
  Calls that are put off, panics, and what recovers from them. Conditions: none beyond those of each law.
-/
import Derived.Test.YtfejamdfhbamcaaMn
import Derived.Test.YtfejamdfhbamcaaCoB
import Derived.Recover
set_option linter.all false
namespace Go.Wm
variable [Dfr]
open Go.RowKit
/-- A panic with v, from which nothing has recovered yet. -/
abbrev pan (v : Value) : List PanicEntry := [{ v := v, recovered := false }]
/-- A call that panics with v, and turns nothing old. -/
def CP (P : Program) (f : FuncId) (args : Array Value) (kr : PH) (v : Value) : Prop :=
  ∀ w k, Le kr k → Sub k w → Calls P f args w fun e w' => e = .panicked (pan v) ∧ ∃ k', Below w.heap.size w w' ∧ Agr w.heap.size k k' ∧ Sub k' w'
def PanF (F : Fr) (v : Value) (e : Ending) (w' : World) : Prop := ∃ k', e = .panicked (pan v) ∧ St F k' w'
theorem cp_of_body {P : Program} {f : FuncId} {fn : Func} {c : Code} {l : List Value} {k : PH} {v : Value} (hf : P.funcs[f]? = some fn) (hb : fn.body = some c) {n : Nat} (hn : fn.ntmps = n)
    (hl : l.length ≤ n) (h : ∀ F : Fr, F.k0 = k → (F.mu = fun _ => False) → CG P F n (bodyPost P fn (PanF F v)) c (argEnv 0 l) k) (hD : Dfr.ds = [] := by rfl) : CP P f l.toArray k v := by
  intro w k1 hle hs
  have hs0 : St ⟨w, k, fun _ => False⟩ k w := ⟨rfl, rfl, rfl, Nat.le_refl _, fun _ _ _ => rfl, hs.mono hle, fun _ _ _ => rfl⟩
  subst hn
  refine Calls.mono (calls_of_wp (R := PanF ⟨w, k, fun _ => False⟩ v) hf hb (h ⟨w, k, fun _ => False⟩ rfl rfl _ w (ag_args hl hD) hs0)) ?_
  rintro e w' ⟨kc, he, hst⟩
  refine ⟨he, fun b => if b < w.heap.size then k1 b else kc b, ⟨hst.os, hst.tape, hst.output, hst.size, fun b hb => hst.old b hb (fun h => h)⟩, fun b hb => by simp [hb], ?_⟩
  intro b o hb
  by_cases hlt : b < w.heap.size
  · simp only [hlt, if_true] at hb
    rw [hst.old b hlt (fun h => h)]
    exact hs b o hb
  · simp only [hlt, if_false] at hb
    exact hst.sub b o hb
/-- A call whose body puts calls off. -/
theorem ctn_of_bodyD {P : Program} {f : FuncId} {fn : Func} {c : Code} {l : List Value} {k : PH} {φ : Nat → PH → Value → Prop} (hf : P.funcs[f]? = some fn) (hb : fn.body = some c) {n : Nat} (hn : fn.ntmps = n)
    (hl : l.length ≤ n) (hm : ∀ N k k' v, Le k k' → φ N k v → φ N k' v)
    (h : ∀ F : Fr, F.k0 = k → (F.mu = fun _ => False) → CG P F n (bodyPostD P fn (RetF F (φ F.w0.heap.size))) c (argEnv 0 l) k) (hD : Dfr.ds = [] := by rfl) : CTN P f l.toArray k φ := by
  intro w k1 hle hs
  have hs0 : St ⟨w, k, fun _ => False⟩ k w := ⟨rfl, rfl, rfl, Nat.le_refl _, fun _ _ _ => rfl, hs.mono hle, fun _ _ _ => rfl⟩
  subst hn
  refine Calls.mono (calls_of_wp_defers (R := RetF ⟨w, k, fun _ => False⟩ (φ w.heap.size)) hf hb (h ⟨w, k, fun _ => False⟩ rfl rfl _ w (ag_args hl hD) hs0)) ?_
  rintro e w' ⟨v, kc, he, hst, hφ⟩
  refine ⟨v, fun b => if b < w.heap.size then k1 b else kc b, he, ⟨hst.os, hst.tape, hst.output, hst.size, fun b hb => hst.old b hb (fun h => h)⟩, fun b hb => by simp [hb], ?_, ?_⟩
  · intro b o hb
    by_cases hlt : b < w.heap.size
    · simp only [hlt, if_true] at hb
      rw [hst.old b hlt (fun h => h)]
      exact hs b o hb
    · simp only [hlt, if_false] at hb
      exact hst.sub b o hb
  · refine hm _ kc _ v (fun b o hb => ?_) hφ
    by_cases hlt : b < w.heap.size
    · simp only [hlt, if_true]
      rw [hst.keep b hlt (fun h => h)] at hb
      exact hle b o hb
    · simp only [hlt, if_false]
      exact hb
section
variable {P : Program} {F : Fr} {n : Nat} {ops : Array Oper} {Q : Exit → Act → World → Prop} {rest : List Oper} {o : Oper} {e : Env} {k : PH}
/-- A value as an interface's. -/
theorem d_iface {t : TypeId} {d : TypeDesc} {x : Operand} {v : Value} [h : TyU P t d] (hop : o.op = .makeInterface t x) (hx : opv e x = some v) (hd : (match d with | .interface _ => false | _ => true) = true) : Det P e k o (.iface t v) := by
  intro ev w hev hs
  rw [hop] at hev
  have h1 := hev x (by simp [Op.operands]) _ hx
  cases d <;> first | (cases hd; done) | simp [execOp, hop, h1, Instr.makeInterface, run_underlying h.eq]
/-- An operation that panics. -/
theorem rpanic {t : TypeId} {v : Value} {x : Operand} (hgd : o.guard = none) (hop : o.op = .panic x) (hx : opv e x = some (.iface t v)) (h : EG F n (Q (.panic (pan (.iface t v)))) e k) : RG P F n ops Q (o :: rest) e k := by
  intro a w hag hs
  unfold wpList
  rw [if_pos (by simp [Region.wanted, hgd])]
  refine .inl ?_
  unfold Oper.wp
  have h1 : a.eval x = .iface t v := hag.eval hx
  have h2 : (execOp a.eval o).run P w = .halt (.panic (.iface t v)) w := by
    simp [execOp, hop, h1, Instr.panic, goPanic]
  rw [h2, Oper.upon_panic]
  exact h a w hag hs
/-- A call that panics. -/
theorem rpc {x : Operand} {args : Array Operand} {ats : Array TypeId} {g : FuncId} {first cap : Array Value} {vs : List Value} [FnOk P g] {v : Value} (hdet : det e = true)
    (hgd : o.guard = none) (hop : o.op = .call { callee := .value x, args := args, argTypes := ats }) (hx : opv e x = some (.func (.func g) first cap)) (ha : opvs e args.toList = some vs)
    (hct : CP P g (first ++ vs.toArray ++ cap) k v) (h : ∀ k', Le k k' → EG F n (Q (.panic (pan v))) e k') : RG P F n ops Q (o :: rest) e k := by
  intro a w hag hs
  unfold wpList
  rw [if_pos (by simp [Region.wanted, hgd])]
  refine .inl ?_
  unfold Oper.wp
  rw [run_call hop hx ha (evs_of (ops := ops) (ag_looks hag)), Oper.upon_enter]
  refine (hct w k (Le.refl _) hs.sub).mono ?_
  rintro en w' ⟨rfl, k', hb, hag', hsub⟩
  exact h k' (hag'.le hs.sub) a w' (hag.heap hdet) (hs.step hb hag' hsub)
theorem eg_then_panic {N : Act → World → Prop} {ch : List PanicEntry} (h : EG F n (Q (.panic ch)) e k) : EG F n (Exit.then N Q (.panic ch)) e k := h
theorem eg_in_panic {id : Nat} {ch : List PanicEntry} (h : EG F n (Q (.panic ch)) e k) : EG F n (Exit.inBlock id Q (.panic ch)) e k := h
theorem eg_panics {fn : Func} {v : Value} (hD : Dfr.ds = [] := by rfl) : EG F n (bodyPost P fn (PanF F v) (.panic (pan v))) e k := fun a w ha hs => ⟨ha.defers.trans hD, k, rfl, hs⟩
/-- A call that is put off. -/
theorem rdefer {x : Operand} {args : Array Operand} {ats : Array TypeId} {fv : Fn} {first cap : Array Value} {vs : List Value} (hgd : o.guard = none) (hdst : o.dst = none)
    (hop : o.op = .defer { callee := .value x, args := args, argTypes := ats }) (hx : opv e x = some (.func fv first cap)) (ha : opvs e args.toList = some vs)
    {ds : List Deferred} (hds : Dfr.ds = ds)
    (h : ∀ D : Dfr, D.ds = { target := .fn fv cap, args := first ++ vs.toArray } :: ds → @RG D P F n ops Q rest e k) : RG P F n ops Q (o :: rest) e k := by
  intro a w hag hs
  unfold wpList
  rw [if_pos (by simp [Region.wanted, hgd])]
  refine .inl ?_
  unfold Oper.wp
  have hev := evs_of (ops := ops) (o := o) (ag_looks hag)
  rw [hop] at hev
  have h1 : a.eval x = .func fv first cap := hev x (by simp [Op.operands, Call.operands]) _ hx
  have h2 := opvs_eval args.toList vs (fun y hy => hev y (by simp [Op.operands, Call.operands] at hy ⊢; exact .inr hy)) ha
  have h3 : args.map a.eval = vs.toArray := by
    rw [← h2]; apply Array.toList_inj.1; simp
  have h4 : (execOp a.eval o).run P w = .ok (.defer { target := .fn fv cap, args := first ++ vs.toArray }) w := by
    simp only [execOp, hop, resolve, h1, h3, Deferred.ofValue, bind]
    simp [Sem.bind, pure, Sem.run]
  rw [h4, Oper.upon_defer, hdst]
  exact h ⟨{ target := .fn fv cap, args := first ++ vs.toArray } :: ds⟩ rfl _ w (@Ag.mk ⟨{ target := .fn fv cap, args := first ++ vs.toArray } :: ds⟩ n e k _ hag.size (by show _ :: a.defers = _ :: ds; rw [hag.defers, hds]) hag.get) hs

/-! ### what is put off is called -/
/-- What a call leaves that was put off: in what mode its frame is then, and what is known of the heap. -/
def CTD (P : Program) (f : FuncId) (args : Array Value) (k : PH) (u u' : FrameMode) (M : Nat → Prop) (φ : PH → Prop) : Prop :=
  ∀ w, Sub k w → CallsD P f args u w fun e m w' => (∃ x, e = .returned x) ∧ m = u' ∧ ∃ k', (w'.os = w.os ∧ w'.tape = w.tape ∧ w'.output = w.output ∧ w.heap.size ≤ w'.heap.size) ∧ (∀ b, b < w.heap.size → ¬ M b → w'.heap[b]? = w.heap[b]?) ∧ (∀ b, b < w.heap.size → ¬ M b → k' b = k b) ∧ Sub k' w' ∧ φ k'
/-- The frame's end, where one call was put off. -/
theorem eg_leave {fn : Func} {ψ : PH → Value → Prop} {u u' : FrameMode} {f : FuncId} {dargs cap : Array Value} [FnOk P f] {M : Nat → Prop} {φ : PH → Prop}
    (hD : Dfr.ds = [{ target := .fn (.func f) cap, args := dargs }]) (hu : u ≠ .run) (hu' : settle u' = .returning) (hc : CTD P f (dargs ++ cap) k u u' M φ) (hM : ∀ b, M b → F.w0.heap.size ≤ b ∨ F.mu b)
    (hres : ∀ (a : Act) (w : World) (k' : PH), (∀ t v, get e t = some (.is v) → a.tmps.getD t undef = v) → φ k' → Sub k' w → ∃ v, (results fn a.tmps).run P w = .ok v w ∧ ψ k' v) :
    EG F n (fun a w => Leaves P fn a.tmps (RetF F ψ) a.defers u w) e k := by
  intro a w ha hs
  show Leaves P fn a.tmps (RetF F ψ) a.defers u w
  rw [ha.defers, hD]
  refine leaves_cons hu (by simp only [invoke]; exact run_enter _ w) ?_
  refine (hc w hs.sub).mono ?_
  rintro en m w' ⟨⟨x, rfl⟩, rfl, k', ⟨h1, h2, h3, h4⟩, h5, h6, h7, h8⟩
  dsimp only
  rw [hu']
  obtain ⟨v, hv, hψ⟩ := hres a w' k' (fun t v hg => ha.get t _ hg) h8 h7
  refine ⟨v, hv, v, k', rfl, ⟨h1.trans hs.os, h2.trans hs.tape, h3.trans hs.output, Nat.le_trans hs.size h4, fun b hb hm => ?_, h7, fun b hb hm => ?_⟩, hψ⟩
  · have hnm : ¬ M b := fun hm' => (hM b hm').elim (fun h => by omega) hm
    rw [h5 b (Nat.lt_of_lt_of_le hb hs.size) hnm]
    exact hs.old b hb hm
  · have hnm : ¬ M b := fun hm' => (hM b hm').elim (fun h => by omega) hm
    rw [h6 b (Nat.lt_of_lt_of_le hb hs.size) hnm]
    exact hs.keep b hb hm
/-- Results that are two cells. -/
theorem results_cells2 {fn : Func} {t u : Nat} {ty tz : TypeId} {dy dz : TypeDesc} [hy : TyU P ty dy] [hz : TyU P tz dz] (hr : fn.results = #[.cell t ty, .cell u tz]) (h1 : aggD dy = false) (h2 : aggD dz = false) {b c : Nat} {x y : Value} {tmps : Array Value} {w : World} {k : PH} (hs : Sub k w)
    (ht : tmps.getD t undef = .pointer (some ⟨b, 0, none⟩)) (hu : tmps.getD u undef = .pointer (some ⟨c, 0, none⟩)) (hb : Cells k b 0 [x]) (hc : Cells k c 0 [y]) : (results fn tmps).run P w = .ok (.tuple #[x, y]) w := by
  have q1 := hb.cell hs (i := 0) (v := x) rfl
  have q2 := hc.cell hs (i := 0) (v := y) rfl
  simp only [Nat.add_zero] at q1 q2
  have t1 : tmps[t]?.getD undef = .pointer (some ⟨b, 0, none⟩) := by rw [← ht]; simp
  have t2 : tmps[u]?.getD undef = .pointer (some ⟨c, 0, none⟩) := by rw [← hu]; simp
  simp [results, hr, asAddr, t1, t2, loadVar, run_isAgg hy.eq, run_isAgg hz.eq, h1, h2, q1, q2]
theorem run_assert_hit {t xt : TypeId} {d : TypeDesc} {v : Value} {w : World} [h : TyU P t d] (hd : (match d with | .interface _ => false | _ => true) = true) : (Instr.typeAssert (.iface t v) xt t true).run P w = .ok (.tuple #[v, .bool true]) w := by
  cases d <;> first | (cases hd; done) | simp [Instr.typeAssert, run_underlying h.eq]
theorem run_assert_nil {t xt : TypeId} {d : TypeDesc} {sz bs : Nat} {z : Value} {w : World} [h : TyU P t d] [hz : TyI P t sz bs z] (hd : (match d with | .interface _ => false | _ => true) = true) : (Instr.typeAssert .nilIface xt t true).run P w = .ok (.tuple #[z, .bool false]) w := by
  cases d <;> first | (cases hd; done) | simp [Instr.typeAssert, run_underlying h.eq, run_zero]
theorem d_assert_hit {t xt : TypeId} {d : TypeDesc} {x : Operand} {v : Value} [h : TyU P t d] (hop : o.op = .typeAssert x xt t true) (hx : opv e x = some (.iface t v)) (hd : (match d with | .interface _ => false | _ => true) = true) : Det P e k o (.tuple #[v, .bool true]) := by
  intro ev w hev hs
  rw [hop] at hev
  have h1 := hev x (by simp [Op.operands]) _ hx
  have h2 := run_assert_hit (P := P) (t := t) (xt := xt) (v := v) (w := w) hd
  simp [execOp, hop, h1, h2]
theorem d_assert_nil {t xt : TypeId} {d : TypeDesc} {sz bs : Nat} {z : Value} {x : Operand} [h : TyU P t d] [hz : TyI P t sz bs z] (hop : o.op = .typeAssert x xt t true) (hx : opv e x = some .nilIface) (hd : (match d with | .interface _ => false | _ => true) = true) : Det P e k o (.tuple #[z, .bool false]) := by
  intro ev w hev hs
  rw [hop] at hev
  have h1 := hev x (by simp [Op.operands]) _ hx
  have h2 := run_assert_nil (P := P) (t := t) (xt := xt) (z := z) (w := w) hd
  simp [execOp, hop, h1, h2]
end
/-- A region whose first operation is recover. -/
theorem wpS_recover {P : Program} {Q : Exit → Act → List Frame → World → Prop} {Q0 : Exit → Act → World → Prop} {a : Act} {cs cs' : List Frame} {w : World} {id : Nat} {o : Oper} {rest : List Oper} {v : Value}
    (hop : o.op = .call { callee := .builtin .recover, args := #[], argTypes := #[] }) (hgd : o.guard = none) (hrec : recoverD cs = some (v, cs') ∨ (recoverD cs = none ∧ v = .nilIface ∧ cs' = cs))
    (h : wpList P (o :: rest).toArray Q0 rest (a.put o.dst v) w) (hQ : ∀ e a w, Q0 e a w → Q e a cs' w) : (Code.region id (o :: rest).toArray false).wpS P Q a cs w := by
  intro b k hb hro
  have ho : (o :: rest).toArray[0]? = some o := by simp
  have h2 : wpOps P (o :: rest).toArray Q0 (List.range' 1 rest.length) (a.put o.dst v) w := by
    rw [wpOps_eq_wpList rest 1 (fun j => by simp [Nat.add_comm 1 j])]
    exact h
  obtain ⟨e, a', w', hq, harr⟩ := wp_ops _ _ _ h2 b k cs'
  have hw : Region.wanted o (yielded (o :: rest).toArray a.tmps) = true := by simp [Region.wanted, hgd]
  have hg := stepG_op (P := P) (b := b) (k := k) (cs := cs) (w := w) (rest := List.range' 1 rest.length) ho hw
  have hfin : ∀ v, (b.at a (.inRegion (o :: rest).toArray (0 :: List.range' 1 rest.length) :: k)).finish v = b.at (a.put o.dst v) (.inRegion (o :: rest).toArray (List.range' 1 rest.length) :: k) := by
    intro v; rw [Frame.finish_at, ho]; rfl
  have hr : (execOp a.eval o).run P w = .ok .recover w := by
    simp [execOp, hop, resolve, invoke, builtin, bind, Sem.bind, pure, Sem.run]
  have hk : (b.at a (.inRegion (o :: rest).toArray (0 :: List.range' 1 rest.length) :: k)).kind = .deferred := hb
  have htr := tryRecover_deferred hk cs
  refine ⟨e, a', cs', w', hQ _ _ _ hq, .of_steps (.one step_region) ?_⟩
  rw [show List.range (o :: rest).toArray.size = 0 :: List.range' 1 rest.length by simp [List.range_eq_range', List.range'_succ]]
  refine .of_steps (.one (step_lone_go ?_)) harr
  rw [hg, ← hfin]
  simp only [Frame.at] at htr ⊢
  rcases hrec with hrec | ⟨hrec, rfl, rfl⟩ <;> simp [stepG.apply, hr, htr, hrec]
/-- What is put off recovers, and what it does then. -/
theorem ctd_of_body {P : Program} {f : FuncId} {fn : Func} {id : Nat} {o : Oper} {rest : List Oper} {y : Code} {l : List Value} {k : PH} {M : Nat → Prop} {φ : PH → Prop} {u u' : FrameMode} {v : Value} {d n : Nat}
    (hf : P.funcs[f]? = some fn) (hb : fn.body = some (.seq (.region id (o :: rest).toArray false) y)) (hn : fn.ntmps = n) (hl : l.length ≤ n)
    (hop : o.op = .call { callee := .builtin .recover, args := #[], argTypes := #[] }) (hgd : o.guard = none) (hd : o.dst = some d) (hdn : Nat.blt d n = true)
    (hu : (u = .panicking [{ v := v, recovered := false }] ∧ u' = .panicking [{ v := v, recovered := true }]) ∨ (u = .returning ∧ u' = .returning ∧ v = .nilIface))
    (h : ∀ F : Fr, F.k0 = k → F.mu = M → (∀ b o, k b = some o → b < F.w0.heap.size) → RG P F n (o :: rest).toArray (Exit.then (y.wp P (bodyPost P fn (RetF F fun k' _ => φ k'))) (bodyPost P fn (RetF F fun k' _ => φ k'))) rest ((d, .is v) :: argEnv 0 l) k) (hD : Dfr.ds = [] := by rfl) : CTD P f l.toArray k u u' M φ := by
  intro w hs
  have hs0 : St ⟨w, k, M⟩ k w := ⟨rfl, rfl, rfl, Nat.le_refl _, fun _ _ _ => rfl, hs, fun _ _ _ => rfl⟩
  subst hn
  refine callsD_of_wpS hf hb fun c₀ cs hc => ?_
  have conv : ∀ e a w', bodyPost P fn (RetF ⟨w, k, M⟩ fun k' _ => φ k') e a w' → bodyPostS P fn c₀ cs (fun e m w' => (∃ x, e = .returned x) ∧ m = u' ∧ ∃ k', (w'.os = w.os ∧ w'.tape = w.tape ∧ w'.output = w.output ∧ w.heap.size ≤ w'.heap.size) ∧ (∀ b, b < w.heap.size → ¬ M b → w'.heap[b]? = w.heap[b]?) ∧ (∀ b, b < w.heap.size → ¬ M b → k' b = k b) ∧ Sub k' w' ∧ φ k') e a ({ c₀ with mode := u' } :: cs) w' := by
    intro e a w' hq
    cases e with
    | normal =>
      obtain ⟨h1, x, h2, x', k', h3, h4, h5⟩ := hq
      exact ⟨h1, u', rfl, x, h2, ⟨x, rfl⟩, rfl, k', ⟨h4.os, h4.tape, h4.output, h4.size⟩, h4.old, h4.keep, h4.sub, h5⟩
    | ret =>
      obtain ⟨h1, x, h2, x', k', h3, h4, h5⟩ := hq
      exact ⟨h1, u', rfl, x, h2, ⟨x, rfl⟩, rfl, k', ⟨h4.os, h4.tape, h4.output, h4.size⟩, h4.old, h4.keep, h4.sub, h5⟩
    | panic ch =>
      obtain ⟨_, _, _, h3, _⟩ := hq
      cases h3
    | outgrown =>
      obtain ⟨_, _, h3, _⟩ := hq
      cases h3
    | exit id => exact hq.elim
    | goto id => exact hq.elim
  apply wpS_seq
  have hag : Ag fn.ntmps ((d, .is v) :: argEnv 0 l) k (({ tmps := l.toArray ++ Array.replicate (fn.ntmps - l.toArray.size) undef, defers := [] } : Act).put o.dst v) := by
    rw [hd]
    exact (ag_args (k := k) hl hD).put (d := some d) hdn rfl
  refine wpS_recover hop hgd (cs' := { c₀ with mode := u' } :: cs) (v := v) ?_ (h ⟨w, k, M⟩ rfl rfl (fun b o hb => hs.lt hb) _ w hag hs0) ?_
  · rcases hu with ⟨h1, h2⟩ | ⟨h1, h2, h3⟩
    · refine .inl ?_
      rw [h1] at hc
      rw [h2]
      simp [recoverD, hc]
    · refine .inr ⟨?_, h3, ?_⟩
      · rw [h1] at hc
        simp [recoverD, hc]
      · rw [h2, ← h1, ← hc]
  · intro e a w' hq
    cases e with
    | normal => exact wpS_of_wp (wp_mono hq fun ex a' w'' h => conv _ _ _ h)
    | exit id => exact conv (.exit id) a w' hq
    | goto id => exact conv (.goto id) a w' hq
    | ret => exact conv .ret a w' hq
    | panic ch => exact conv (.panic ch) a w' hq
    | outgrown => exact conv .outgrown a w' hq
end Go.Wm

/-
  A calculus of its own for the walks of this seat: what is known of a frame is a list of slots ('Env'), what is known of memory is a partial heap ('PH'); any-order regions by one walk in the text's order. Conditions: none; over any program P.
-/
import Derived.Orders
import Derived.Tactics
import Derived.Below
import Derived.WalkKit
set_option linter.all false
namespace Go.Wm
open Go.RowKit

/-! ### partial heaps -/
abbrev PH := Nat → Option Obj
def upd (k : PH) (b : Nat) (o : Obj) : PH := fun i => if i = b then some o else k i
def Le (h k : PH) : Prop := ∀ b o, h b = some o → k b = some o
def Sub (k : PH) (w : World) : Prop := ∀ b o, k b = some o → w.heap[b]? = some o
def Agr (N : Nat) (k k' : PH) : Prop := ∀ b, b < N → k' b = k b

theorem Le.refl (k : PH) : Le k k := fun _ _ h => h
theorem Le.trans {a b c : PH} (h : Le a b) (h' : Le b c) : Le a c := fun i o e => h' i o (h i o e)
theorem upd_same (k : PH) (b : Nat) (o : Obj) : upd k b o b = some o := by simp [upd]
theorem upd_other {k : PH} {b c : Nat} {o : Obj} (h : c ≠ b) : upd k b o c = k c := by simp [upd, h]
theorem Le.upd {h k : PH} {b : Nat} {o : Obj} (hl : Le h k) (hn : h b = none) : Le h (upd k b o) := fun i o' e => by
  have hne : i ≠ b := by rintro rfl; rw [hn] at e; cases e
  rw [upd_other hne]; exact hl i o' e
theorem Sub.lt {k : PH} {w : World} (h : Sub k w) {b : Nat} {o : Obj} (hb : k b = some o) : b < w.heap.size :=
  (Array.getElem?_eq_some_iff.1 (h b o hb)).1
theorem Sub.none {k : PH} {w : World} (h : Sub k w) {b : Nat} (hb : w.heap.size ≤ b) : k b = none := by
  cases e : k b with
  | none => rfl
  | some o => have := h.lt e; omega
theorem Sub.mono {h k : PH} {w : World} (hs : Sub k w) (hl : Le h k) : Sub h w := fun b o e => hs b o (hl b o e)
theorem Sub.below {k : PH} {w w' : World} (h : Sub k w) (hb : Below w.heap.size w w') : Sub k w' := fun b o e => by
  rw [hb.block b (h.lt e)]; exact h b o e
theorem Agr.le {k k' : PH} {w : World} (h : Agr w.heap.size k k') (hs : Sub k w) : Le k k' := fun b o e => by
  rw [h b (hs.lt e)]; exact e
theorem Agr.refl (N : Nat) (k : PH) : Agr N k k := fun _ _ => rfl

/-- The frame of a call: its world at the start, what was known of it, and which old blocks it may turn. -/
structure Fr where
  w0 : World
  k0 : PH
  mu : Nat → Prop

structure St (F : Fr) (k : PH) (w : World) : Prop where
  os : w.os = F.w0.os
  tape : w.tape = F.w0.tape
  output : w.output = F.w0.output
  size : F.w0.heap.size ≤ w.heap.size
  old : ∀ b, b < F.w0.heap.size → ¬ F.mu b → w.heap[b]? = F.w0.heap[b]?
  sub : Sub k w
  keep : ∀ b, b < F.w0.heap.size → ¬ F.mu b → k b = F.k0 b

theorem St.step {F : Fr} {k k' : PH} {w w' : World} (h : St F k w) (hb : Below w.heap.size w w') (ha : Agr w.heap.size k k') (hs : Sub k' w') : St F k' w' :=
  ⟨hb.os.trans h.os, hb.tape.trans h.tape, hb.output.trans h.output, Nat.le_trans h.size hb.size,
    fun b hl hm => (hb.block b (Nat.lt_of_lt_of_le hl h.size)).trans (h.old b hl hm), hs,
    fun b hl hm => (ha b (Nat.lt_of_lt_of_le hl h.size)).trans (h.keep b hl hm)⟩
theorem St.below {F : Fr} {k : PH} {w w' : World} (h : St F k w) (hb : Below w.heap.size w w') : St F k w' :=
  h.step hb (Agr.refl _ _) (h.sub.below hb)
/-- A draw. -/
theorem below_drawn (w : World) (n : Nat) : Below w.heap.size w { w with drawn := n } := ⟨rfl, rfl, rfl, Nat.le_refl _, fun _ _ => rfl⟩

/-! ### what is known of a frame -/
inductive PV where
  | is (v : Value)
  | such (φ : PH → Value → Prop)

def PV.holds (k : PH) (u : Value) : PV → Prop
  | .is v => u = v
  | .such φ => φ k u
def PV.Mono : PV → Prop
  | .is _ => True
  | .such φ => ∀ k k' v, Le k k' → φ k v → φ k' v
theorem PV.holds_mono {p : PV} (hm : p.Mono) {k k' : PH} {u : Value} (hl : Le k k') (h : p.holds k u) : p.holds k' u := by
  cases p with
  | is v => exact h
  | such φ => exact hm k k' u hl h

abbrev Env := List (Nat × PV)
def get : Env → Nat → Option PV
  | [], _ => none
  | (d, p) :: r, t => match Nat.beq d t with | true => some p | false => get r t
def set (e : Env) : Option Nat → PV → Env
  | some d, p => (d, p) :: e
  | none, _ => e
/-- All of e' is known by e. -/
def EnvLe : Env → Env → Prop
  | [], _ => True
  | (t, p) :: r, e => get e t = some p ∧ EnvLe r e
def det : Env → Bool
  | [] => true
  | (_, .is _) :: r => det r
  | (_, .such _) :: _ => false

theorem get_cons_same (d : Nat) (p : PV) (r : Env) : get ((d, p) :: r) d = some p := by simp [get]
theorem get_cons_other {d t : Nat} (p : PV) (r : Env) (h : d ≠ t) : get ((d, p) :: r) t = get r t := by
  have : Nat.beq d t = false := by
    cases e : Nat.beq d t with
    | false => rfl
    | true => exact absurd (Nat.eq_of_beq_eq_true e) h
  simp [get, this]

theorem EnvLe.get {e' e : Env} (h : EnvLe e' e) {t : Nat} {p : PV} (hg : get e' t = some p) : get e t = some p := by
  induction e' with
  | nil => simp [Wm.get] at hg
  | cons x r ih =>
    obtain ⟨d, q⟩ := x
    by_cases hd : d = t
    · subst hd
      rw [get_cons_same] at hg
      cases hg
      exact h.1
    · rw [get_cons_other _ _ hd] at hg
      exact ih h.2 hg
theorem det_get {e : Env} (hd : det e = true) {t : Nat} {p : PV} (hg : get e t = some p) : ∃ v, p = .is v := by
  induction e with
  | nil => simp [get] at hg
  | cons x r ih =>
    obtain ⟨d, q⟩ := x
    cases q with
    | such φ => simp [det] at hd
    | is v =>
      by_cases ht : d = t
      · subst ht
        rw [get_cons_same] at hg
        cases hg
        exact ⟨v, rfl⟩
      · rw [get_cons_other _ _ ht] at hg
        exact ih hd hg

structure Ag (n : Nat) (e : Env) (k : PH) (a : Act) : Prop where
  size : a.tmps.size = n
  defers : a.defers = []
  get : ∀ t p, get e t = some p → p.holds k (a.tmps.getD t undef)

theorem Ag.le {n : Nat} {e e' : Env} {k : PH} {a : Act} (h : Ag n e k a) (hl : EnvLe e' e) : Ag n e' k a :=
  ⟨h.size, h.defers, fun t p hg => h.get t p (hl.get hg)⟩
theorem Ag.heap {n : Nat} {e : Env} {k k' : PH} {a : Act} (h : Ag n e k a) (hd : det e = true) : Ag n e k' a :=
  ⟨h.size, h.defers, fun t p hg => by
    obtain ⟨v, rfl⟩ := det_get hd hg
    exact h.get t _ hg⟩

def opv (e : Env) : Operand → Option Value
  | .tmp t => match get e t with | some (.is v) => some v | _ => none
  | .const v => some v
  | .global g => some (.pointer (some ⟨g, 0, none⟩))
  | .func f => some (.func (.func f) #[] #[])
/-- The frame gives each known operand of the list its value. -/
def Evs (e : Env) (ev : Operand → Value) (xs : List Operand) : Prop := ∀ x ∈ xs, ∀ u, opv e x = some u → ev x = u

theorem put_getD_same {a : Act} {d : Nat} {v : Value} (h : d < a.tmps.size) : (a.put (some d) v).tmps.getD d undef = v := by
  simp [Act.put, Array.getD, h]
theorem put_getD_other {a : Act} {d t : Nat} {v : Value} (h : d ≠ t) : (a.put (some d) v).tmps.getD t undef = a.tmps.getD t undef := by
  simp only [Act.put, Array.getD_eq_getD_getElem?, Array.getElem?_setIfInBounds, h, if_false]
theorem put_size (a : Act) (d : Option Nat) (v : Value) : (a.put d v).tmps.size = a.tmps.size := by
  cases d <;> simp [Act.put]
theorem put_defers (a : Act) (d : Option Nat) (v : Value) : (a.put d v).defers = a.defers := by
  cases d <;> rfl
def fits (n : Nat) : Option Nat → Bool
  | some d => Nat.blt d n
  | none => true
theorem Ag.put {n : Nat} {e : Env} {k : PH} {a : Act} (h : Ag n e k a) {d : Option Nat} (hf : fits n d = true) {p : PV} {v : Value} (hp : p.holds k v) :
    Ag n (set e d p) k (a.put d v) := by
  refine ⟨(put_size a d v).trans h.size, (put_defers a d v).trans h.defers, fun t q hg => ?_⟩
  cases d with
  | none => exact h.get t q hg
  | some d =>
    have hd : d < n := by simpa [fits, Nat.blt_eq] using hf
    by_cases ht : d = t
    · subst ht
      rw [show set e (some d) p = (d, p) :: e from rfl, get_cons_same] at hg
      cases hg
      rw [put_getD_same (by rw [h.size]; exact hd)]
      exact hp
    · rw [show set e (some d) p = (d, p) :: e from rfl, get_cons_other _ _ ht] at hg
      rw [put_getD_other ht]
      exact h.get t q hg

/-! ### one operation -/
/-- The operation yields some value and world that are so. -/
def Ex (P : Program) (o : Oper) (a : Act) (w : World) (φ : Value → World → Prop) : Prop :=
  ∀ (K : Act → World → Prop) (Q : Exit → Act → World → Prop), (∀ v w', φ v w' → K (a.put o.dst v) w') → o.wp P a w K Q

theorem Ex.mono {P : Program} {o : Oper} {a : Act} {w : World} {φ ψ : Value → World → Prop} (h : Ex P o a w φ) (hm : ∀ v w', φ v w' → ψ v w') : Ex P o a w ψ :=
  fun K Q hK => h K Q fun v w' hv => hK v w' (hm v w' hv)
theorem ex_value {P : Program} {o : Oper} {a : Act} {w w' : World} {v : Value} (h : (execOp a.eval o).run P w = .ok (.value v) w') : Ex P o a w fun u u' => u = v ∧ u' = w' := by
  intro K Q hK
  unfold Oper.wp
  rw [h]
  exact hK v w' ⟨rfl, rfl⟩
theorem ex_skip {P : Program} {o : Oper} {a : Act} {w w' : World} (h : (execOp a.eval o).run P w = .ok .skip w') : Ex P o a w fun u u' => u = undef ∧ u' = w' := by
  intro K Q hK
  unfold Oper.wp
  rw [h]
  exact hK undef w' ⟨rfl, rfl⟩
theorem ex_enter {P : Program} {o : Oper} {a : Act} {w w1 : World} {f : FuncId} {args : Array Value} {φ : Value → World → Prop} (h : (execOp a.eval o).run P w = .ok (.enter f args) w1)
    (hc : Calls P f args w1 fun e w' => ∃ v, e = .returned v ∧ φ v w') : Ex P o a w φ := by
  intro K Q hK
  unfold Oper.wp
  rw [h]
  exact hc.mono fun e w' ⟨v, he, hv⟩ => by subst he; exact hK v w' hv

/-- What one operation does that turns no old block: in whatever world that knows kr at least, with what it looks at as e says. -/
def Loc (P : Program) (n : Nat) (ops : Array Oper) (o : Oper) (e : Env) (kr : PH) (p : PV) : Prop :=
  p.Mono ∧ ∀ (a : Act) (w : World) (k : PH), Le kr k → Sub k w → a.tmps.size = n →
    (∀ t ∈ o.looksAt ops, ∀ q, get e t = some q → q.holds k (a.tmps.getD t undef)) →
    if Region.wanted o (yielded ops a.tmps) then
      Ex P o a w (fun v w' => ∃ k', Below w.heap.size w w' ∧ Agr w.heap.size k k' ∧ Sub k' w' ∧ p.holds k' v)
    else p.holds k undef

/-! ### a region in the text's order, with effects -/
def RG (P : Program) (F : Fr) (n : Nat) (ops : Array Oper) (Q : Exit → Act → World → Prop) (rest : List Oper) (e : Env) (k : PH) : Prop :=
  ∀ a w, Ag n e k a → St F k w → wpList P ops Q rest a w
def EG (F : Fr) (n : Nat) (X : Act → World → Prop) (e : Env) (k : PH) : Prop := ∀ a w, Ag n e k a → St F k w → X a w
def CG (P : Program) (F : Fr) (n : Nat) (Q : Exit → Act → World → Prop) (c : Code) (e : Env) (k : PH) : Prop :=
  ∀ a w, Ag n e k a → St F k w → c.wp P Q a w

section
variable {P : Program} {F : Fr} {n : Nat} {ops : Array Oper} {Q : Exit → Act → World → Prop} {rest : List Oper} {o : Oper} {e : Env} {k : PH}

theorem rg_nil (h : EG F n (Q .normal) e k) : RG P F n ops Q [] e k := fun a w ha hs => h a w ha hs

theorem ag_looks {a : Act} (ha : Ag n e k a) : ∀ t ∈ o.looksAt ops, ∀ q, get e t = some q → q.holds k (a.tmps.getD t undef) := fun t _ q hg => ha.get t q hg

theorem rg_det {v : Value} (hf : fits n o.dst = true) (hl : Loc P n ops o e k (.is v)) (h : RG P F n ops Q rest (set e o.dst (.is v)) k) : RG P F n ops Q (o :: rest) e k := by
  intro a w ha hs
  have := hl.2 a w k (Le.refl _) hs.sub ha.size (ag_looks ha)
  unfold wpList
  split
  · rename_i hw
    rw [if_pos hw] at this
    refine .inl (this _ _ fun u w' ⟨k', hb, hag, hsub, hp⟩ => h _ _ (ha.put hf hp) (hs.below hb))
  · rename_i hw
    rw [if_neg hw] at this
    exact h _ _ (ha.put hf this) hs
theorem rg_such {φ : PH → Value → Prop} (hd : det e = true) (hf : fits n o.dst = true) (hl : Loc P n ops o e k (.such φ)) (h : ∀ k', Le k k' → ∀ v, φ k' v → RG P F n ops Q rest (set e o.dst (.is v)) k') :
    RG P F n ops Q (o :: rest) e k := by
  intro a w ha hs
  have := hl.2 a w k (Le.refl _) hs.sub ha.size (ag_looks ha)
  unfold wpList
  split
  · rename_i hw
    rw [if_pos hw] at this
    refine .inl (this _ _ fun u w' ⟨k', hb, hag, hsub, hp⟩ => h k' (hag.le hs.sub) u hp _ _ ?_ (hs.step hb hag hsub))
    exact (ha.heap (k' := k') hd).put hf rfl
  · rename_i hw
    rw [if_neg hw] at this
    exact h k (Le.refl _) _ this _ _ (ha.put hf rfl) hs

/-- An effect: the operation takes a world of k to one of k', whatever it yields. -/
theorem rg_eff {φ : Value → PH → Prop} (hd : det e = true) (hf : fits n o.dst = true) (hg : o.guard = none)
    (hx : ∀ a w, Ag n e k a → St F k w → Ex P o a w fun v w' => ∃ k', φ v k' ∧ St F k' w')
    (h : ∀ v k', φ v k' → RG P F n ops Q rest (set e o.dst (.is v)) k') : RG P F n ops Q (o :: rest) e k := by
  intro a w ha hs
  unfold wpList
  rw [if_pos (by simp [Region.wanted, hg])]
  exact .inl (hx a w ha hs _ _ fun v w' ⟨k', hv, hs'⟩ => h v k' hv _ _ ((ha.heap (k' := k') hd).put hf rfl) hs')

theorem cg_region {id : Nat} {l : List Oper} (h : RG P F n l.toArray Q l e k) : CG P F n Q (.region id l.toArray false) e k := fun a w ha hs => wp_region_lit (h a w ha hs)
theorem cg_seq {x y : Code} (h : CG P F n (Exit.then (y.wp P Q) Q) x e k) : CG P F n Q (.seq x y) e k := fun a w ha hs => wp_seq (h a w ha hs)
theorem cg_skip (h : EG F n (Q .normal) e k) : CG P F n Q .skip e k := fun a w ha hs => wp_skip (h a w ha hs)
theorem cg_label {l : Nat} (h : EG F n (Q .normal) e k) : CG P F n Q (.label l) e k := fun a w ha hs => wp_label (h a w ha hs)
theorem cg_exit {id : Nat} (h : EG F n (Q (.exit id)) e k) : CG P F n Q (.exit id) e k := fun a w ha hs => wp_exit (h a w ha hs)
theorem cg_goto {id : Nat} (h : EG F n (Q (.goto id)) e k) : CG P F n Q (.goto id) e k := fun a w ha hs => wp_goto (h a w ha hs)
theorem cg_ret (h : EG F n (Q .ret) e k) : CG P F n Q .ret e k := fun a w ha hs => wp_ret (h a w ha hs)
theorem cg_block {id : Nat} {c : Code} (h : CG P F n (Exit.inBlock id Q) c e k) : CG P F n Q (.block id c) e k := fun a w ha hs => wp_block (h a w ha hs)
theorem Ag.eval {a : Act} (ha : Ag n e k a) {x : Operand} {v : Value} (hx : opv e x = some v) : a.eval x = v := by
  cases x with
  | tmp t =>
    simp only [opv] at hx
    split at hx
    · rename_i u hu
      cases hx
      exact ha.get t _ hu
    · cases hx
  | const u => cases hx; rfl
  | global g => cases hx; rfl
  | func f => cases hx; rfl
theorem cg_cond {c : Operand} {x y : Code} {b : Bool} (hc : opv e c = some (.bool b)) (ht : b = true → CG P F n Q x e k) (hf : b = false → CG P F n Q y e k) : CG P F n Q (.cond c x y) e k :=
  fun a w ha hs => wp_cond_split (ha.eval hc) (fun h => ht h a w ha hs) (fun h => hf h a w ha hs)
theorem cg_cond_true {c : Operand} {x y : Code} (hc : opv e c = some (.bool true)) (ht : CG P F n Q x e k) : CG P F n Q (.cond c x y) e k :=
  cg_cond hc (fun _ => ht) (fun h => by cases h)
theorem cg_cond_false {c : Operand} {x y : Code} (hc : opv e c = some (.bool false)) (hf : CG P F n Q y e k) : CG P F n Q (.cond c x y) e k :=
  cg_cond hc (fun h => by cases h) (fun _ => hf)

/-- A loop: the relation over whatever x, the environment and the heap at its head. -/
theorem cg_loop {ι : Type} (I : ι → Env → PH → Prop) (μ : ι → Nat) (i0 : ι) {e0 : Env} (h0 : I i0 e0 k) (hle : EnvLe e0 e) {c : Code}
    (round : ∀ i e k, I i e k → CG P F n (Exit.then (fun a w => ∃ j e' k', I j e' k' ∧ μ j < μ i ∧ Ag n e' k' a ∧ St F k' w) Q) c e k) : CG P F n Q (.loop c) e k := by
  intro a w ha hs b ks cs
  have key : ∀ m i e k a w, μ i = m → I i e k → Ag n e k a → St F k w →
      ∃ ex a' w', Q ex a' w' ∧ Arrives P (lone (b.at a (.code c :: .inLoop c :: ks)) cs w) b ks cs ex a' w' := by
    intro m
    induction m using Nat.strongRecOn with
    | _ m ih =>
      intro i e k a w hm hI ha hs
      obtain ⟨ex, a₁, w₁, hq, harr⟩ := round i e k hI a w ha hs b (.inLoop c :: ks) cs
      cases ex with
      | normal =>
        obtain ⟨j, e', k', hI₁, hlt, ha', hs'⟩ := hq
        obtain ⟨e₂, a₂, w₂, hq₂, harr₂⟩ := ih (μ j) (hm ▸ hlt) j e' k' a₁ w₁ rfl hI₁ ha' hs'
        exact ⟨e₂, a₂, w₂, hq₂, .of_steps (Steps.trans harr (.one step_inLoop)) harr₂⟩
      | exit id => exact ⟨_, a₁, w₁, hq, .pass (x := .inLoop c) rfl (fun _ _ => .inl (by simp)) harr⟩
      | goto l => exact ⟨_, a₁, w₁, hq, .pass (x := .inLoop c) rfl (fun _ _ => .inl (by simp)) harr⟩
      | ret => exact ⟨_, a₁, w₁, hq, .pass (x := .inLoop c) rfl (fun _ _ => .inl (by simp)) harr⟩
      | panic ch => exact ⟨_, a₁, w₁, hq, .pass (x := .inLoop c) rfl (fun _ _ => .inl (by simp)) harr⟩
      | outgrown => exact ⟨_, a₁, w₁, hq, .pass (x := .inLoop c) rfl (fun _ _ => .inl (by simp)) harr⟩
  obtain ⟨ex, a', w', hq, harr⟩ := key _ i0 e0 k a w rfl h0 (ha.le hle) hs
  exact ⟨ex, a', w', hq, .of_steps (.one step_loop) harr⟩

/-- The round's end. -/
theorem eg_round {ι : Type} {I : ι → Env → PH → Prop} {μ : ι → Nat} {m : Nat} (j : ι) (e' : Env) (hI : I j e' k) (hm : μ j < m) (hle : EnvLe e' e) :
    EG F n (fun a w => ∃ j e' k', I j e' k' ∧ μ j < m ∧ Ag n e' k' a ∧ St F k' w) e k :=
  fun _ _ ha hs => ⟨j, e', k, hI, hm, ha.le hle, hs⟩
/-- What is known is forgotten in part. -/
theorem cg_le {c : Code} (e' : Env) (k' : PH) (hle : EnvLe e' e) (hd : det e' = true) (hk : Le k' k) (hkeep : ∀ b, b < F.w0.heap.size → ¬ F.mu b → k' b = F.k0 b) (h : CG P F n Q c e' k') : CG P F n Q c e k :=
  fun a w ha hs => h a w ((ha.le hle).heap hd) ⟨hs.os, hs.tape, hs.output, hs.size, hs.old, hs.sub.mono hk, hkeep⟩
theorem cg_env {c : Code} (e' : Env) (hle : EnvLe e' e) (h : CG P F n Q c e' k) : CG P F n Q c e k := fun a w ha hs => h a w (ha.le hle) hs
theorem eg_env {X : Act → World → Prop} (e' : Env) (hle : EnvLe e' e) (h : EG F n X e' k) : EG F n X e k := fun a w ha hs => h a w (ha.le hle) hs
/-- A value that is not known outright is given a name. -/
theorem cg_name {c : Code} (t : Nat) {φ : PH → Value → Prop} (hg : get e t = some (.such φ)) (h : ∀ v, φ k v → CG P F n Q c ((t, .is v) :: e) k) : CG P F n Q c e k := by
  intro a w ha hs
  refine h _ (ha.get t _ hg) a w ⟨ha.size, ha.defers, fun u p hp => ?_⟩ hs
  by_cases hu : t = u
  · subst hu
    rw [get_cons_same] at hp
    cases hp
    rfl
  · rw [get_cons_other _ _ hu] at hp
    exact ha.get u p hp
theorem eg_name {X : Act → World → Prop} (t : Nat) {φ : PH → Value → Prop} (hg : get e t = some (.such φ)) (h : ∀ v, φ k v → EG F n X ((t, .is v) :: e) k) : EG F n X e k := by
  intro a w ha hs
  refine h _ (ha.get t _ hg) a w ⟨ha.size, ha.defers, fun u p hp => ?_⟩ hs
  by_cases hu : t = u
  · subst hu
    rw [get_cons_same] at hp
    cases hp
    rfl
  · rw [get_cons_other _ _ hu] at hp
    exact ha.get u p hp

/-! the ways on -/
theorem eg_then {y : Code} (h : CG P F n Q y e k) : EG F n (Exit.then (y.wp P Q) Q .normal) e k := h
theorem eg_then_exit {N : Act → World → Prop} {id : Nat} (h : EG F n (Q (.exit id)) e k) : EG F n (Exit.then N Q (.exit id)) e k := h
theorem eg_then_ret {N : Act → World → Prop} (h : EG F n (Q .ret) e k) : EG F n (Exit.then N Q .ret) e k := h
theorem eg_then_goto {N : Act → World → Prop} {l : Nat} (h : EG F n (Q (.goto l)) e k) : EG F n (Exit.then N Q (.goto l)) e k := h
theorem eg_in_normal {id : Nat} (h : EG F n (Q .normal) e k) : EG F n (Exit.inBlock id Q .normal) e k := h
theorem eg_in_ret {id : Nat} (h : EG F n (Q .ret) e k) : EG F n (Exit.inBlock id Q .ret) e k := h
theorem eg_in_goto {id l : Nat} (h : EG F n (Q (.goto l)) e k) : EG F n (Exit.inBlock id Q (.goto l)) e k := h
theorem eg_in_exit {id : Nat} (h : EG F n (Q .normal) e k) : EG F n (Exit.inBlock id Q (.exit id)) e k := fun a w ha hs => by
  simp only [Exit.inBlock, if_true]; exact h a w ha hs
theorem eg_in_other {id id' : Nat} (hne : Nat.beq id' id = false) (h : EG F n (Q (.exit id')) e k) : EG F n (Exit.inBlock id Q (.exit id')) e k := fun a w ha hs => by
  have : id' ≠ id := fun h => by rw [h, Nat.beq_refl] at hne; cases hne
  simp only [Exit.inBlock, this, if_false]; exact h a w ha hs
end

/-! ### a call -/
/-- What a call that turns nothing old leaves: a value, and what is known of the heap then. -/
def Ret (k : PH) (w : World) (φ : PH → Value → Prop) (e : Ending) (w' : World) : Prop :=
  ∃ v k', e = .returned v ∧ Below w.heap.size w w' ∧ Agr w.heap.size k k' ∧ Sub k' w' ∧ φ k' v
/-- Called where k is known at least. -/
def CT (P : Program) (f : FuncId) (args : Array Value) (kr : PH) (φ : PH → Value → Prop) : Prop :=
  ∀ w k, Le kr k → Sub k w → Calls P f args w (Ret k w φ)
theorem CT.mono {P : Program} {f : FuncId} {args : Array Value} {k k' : PH} {φ ψ : PH → Value → Prop} (h : CT P f args k φ) (hl : Le k k') (hm : ∀ k v, φ k v → ψ k v) : CT P f args k' ψ :=
  fun w k1 hk hs => (h w k1 (hl.trans hk) hs).mono fun _ _ ⟨v, k2, h1, h2, h3, h4, h5⟩ => ⟨v, k2, h1, h2, h3, h4, hm _ _ h5⟩

def RetF (F : Fr) (φ : PH → Value → Prop) (e : Ending) (w' : World) : Prop := ∃ v k', e = .returned v ∧ St F k' w' ∧ φ k' v

def argEnv : Nat → List Value → Env
  | _, [] => []
  | i, v :: r => (i, .is v) :: argEnv (i + 1) r
theorem argEnv_get : ∀ (l : List Value) (i t : Nat) (p : PV), get (argEnv i l) t = some p → ∃ v, p = .is v ∧ i ≤ t ∧ l[t - i]? = some v
  | [], _, _, _, h => by simp [argEnv, get] at h
  | v :: r, i, t, p, h => by
    by_cases ht : i = t
    · subst ht
      rw [argEnv, get_cons_same] at h
      cases h
      exact ⟨v, rfl, Nat.le_refl _, by simp⟩
    · rw [argEnv, get_cons_other _ _ ht] at h
      obtain ⟨u, hp, hi, hu⟩ := argEnv_get r (i + 1) t p h
      refine ⟨u, hp, by omega, ?_⟩
      rw [show t - i = (t - (i + 1)) + 1 by omega]
      simpa using hu
theorem ag_args {n : Nat} {l : List Value} {k : PH} (hl : l.length ≤ n) :
    Ag n (argEnv 0 l) k { tmps := l.toArray ++ Array.replicate (n - l.toArray.size) undef, defers := [] } := by
  refine ⟨by simp; omega, rfl, fun t p hg => ?_⟩
  obtain ⟨v, rfl, _, hv⟩ := argEnv_get l 0 t p hg
  simp only [Nat.sub_zero] at hv
  have hlt : t < l.length := (List.getElem?_eq_some_iff.1 hv).1
  show _ = v
  rw [Array.getD_eq_getD_getElem?, Array.getElem?_append_left (by simpa using hlt)]
  simp [hv]

theorem ct_of_body {P : Program} {f : FuncId} {fn : Func} {c : Code} {l : List Value} {k : PH} {φ : PH → Value → Prop} (hf : P.funcs[f]? = some fn) (hb : fn.body = some c) {n : Nat} (hn : fn.ntmps = n)
    (hl : l.length ≤ n) (hm : ∀ k k' v, Le k k' → φ k v → φ k' v)
    (h : ∀ F : Fr, F.k0 = k → (F.mu = fun _ => False) → CG P F n (bodyPost P fn (RetF F φ)) c (argEnv 0 l) k) : CT P f l.toArray k φ := by
  intro w k1 hle hs
  have hs0 : St ⟨w, k, fun _ => False⟩ k w := ⟨rfl, rfl, rfl, Nat.le_refl _, fun _ _ _ => rfl, hs.mono hle, fun _ _ _ => rfl⟩
  subst hn
  refine Calls.mono (calls_of_wp (R := RetF ⟨w, k, fun _ => False⟩ φ) hf hb (h ⟨w, k, fun _ => False⟩ rfl rfl _ w (ag_args hl) hs0)) ?_
  rintro e w' ⟨v, kc, he, hst, hφ⟩
  refine ⟨v, fun b => if b < w.heap.size then k1 b else kc b, he, ⟨hst.os, hst.tape, hst.output, hst.size, fun b hb => hst.old b hb (fun h => h)⟩, fun b hb => by simp [hb], ?_, ?_⟩
  · intro b o hb
    by_cases hlt : b < w.heap.size
    · simp only [hlt, if_true] at hb
      rw [hst.old b hlt (fun h => h)]
      exact hs b o hb
    · simp only [hlt, if_false] at hb
      exact hst.sub b o hb
  · refine hm kc _ v (fun b o hb => ?_) hφ
    by_cases hlt : b < w.heap.size
    · simp only [hlt, if_true]
      rw [hst.keep b hlt (fun h => h)] at hb
      exact hle b o hb
    · simp only [hlt, if_false]
      exact hb

section
variable {P : Program} {F : Fr} {n : Nat} {e : Env} {k : PH}
theorem eg_return {fn : Func} {φ : PH → Value → Prop} {t : Nat} (hr : fn.results = #[.tmp t]) {v : Value} (hv : get e t = some (.is v)) (hφ : φ k v) : EG F n (bodyPost P fn (RetF F φ) .ret) e k := by
  intro a w ha hs
  have := ha.get t _ hv
  exact bodyPost_ret (results_tmp hr _ _ _) ha.defers ⟨_, k, rfl, hs, by rw [show a.tmps.getD t undef = v from this]; exact hφ⟩
theorem eg_return2 {fn : Func} {φ : PH → Value → Prop} {t u : Nat} (hr : fn.results = #[.tmp t, .tmp u]) {v x : Value} (hv : get e t = some (.is v)) (hx : get e u = some (.is x)) (hφ : φ k (.tuple #[v, x])) :
    EG F n (bodyPost P fn (RetF F φ) .ret) e k := by
  intro a w ha hs
  have h1 := ha.get t _ hv
  have h2 := ha.get u _ hx
  exact bodyPost_ret (results_tmp2 hr _ _ _) ha.defers ⟨_, k, rfl, hs, by rw [show a.tmps.getD t undef = v from h1, show a.tmps.getD u undef = x from h2]; exact hφ⟩
theorem eg_return0 {fn : Func} {φ : PH → Value → Prop} (hr : fn.results = #[]) (hφ : φ k (.tuple #[])) : EG F n (bodyPost P fn (RetF F φ) .ret) e k := by
  intro a w ha hs
  exact bodyPost_ret (results_none hr _ _ _) ha.defers ⟨_, k, rfl, hs, hφ⟩
theorem eg_normal_ret {fn : Func} {R : Ending → World → Prop} (h : EG F n (bodyPost P fn R .ret) e k) : EG F n (bodyPost P fn R .normal) e k := h
end
end Go.Wm

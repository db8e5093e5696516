/-
  The core of the calculus, its parts one behind the other (CoA). Conditions: none beyond those of each law.
-/
import Derived.Orders
import Derived.Tactics
import Derived.Below
import Derived.WalkKit
import Derived.Laws.StructEq
import Derived.Lib.Strings
import Derived.KernelRfl
import Derived.ProofKit
import Derived.OpenShut
import Derived.Deep.Slices
import Derived.Deep.Fields
import Derived.Carry
import Derived.ScopeJumps
set_option linter.all false
/-
  A calculus of its own for the walks of this seat: what is known of a frame is a list of slots ('Env'), what is known of memory is some of its blocks ('PH'); any-order regions by one walk in the text's order. Conditions: none; over any program P.
-/
namespace Go.Wm
open Go.RowKit
/-- The calls that the frame has put off. -/
class Dfr where
  ds : List Deferred
instance dfrNone : Dfr := ⟨[]⟩
variable [Dfr]

/-! ### what is known of a heap -/
abbrev PH := Nat → Option Obj
def upd (k : PH) (b : Nat) (o : Obj) : PH := fun i => if i = b then some o else k i
def Le (h k : PH) : Prop := ∀ b o, h b = some o → k b = some o
def Sub (k : PH) (w : World) : Prop := ∀ b o, k b = some o → w.heap[b]? = some o
def Agr (N : Nat) (k k' : PH) : Prop := ∀ b, b < N → k' b = k b

theorem Le.refl (k : PH) : Le k k := fun _ _ h => h
theorem Le.trans {a b c : PH} (h : Le a b) (h' : Le b c) : Le a c := fun i o e => h' i o (h i o e)
theorem upd_same (k : PH) (b : Nat) (o : Obj) : upd k b o b = some o := by simp [upd]
theorem upd_other {k : PH} {b c : Nat} {o : Obj} (h : c ≠ b) : upd k b o c = k c := by simp [upd, h]
theorem Le.upd {h k : PH} {b : Nat} {o : Obj} (hl : Le h k) (hn : h b = none) : Le h (upd k b o) := fun i o' e => by
  have hne : i ≠ b := by rintro rfl; rw [hn] at e; cases e
  rw [upd_other hne]; exact hl i o' e
theorem Sub.lt {k : PH} {w : World} (h : Sub k w) {b : Nat} {o : Obj} (hb : k b = some o) : b < w.heap.size :=
  (Array.getElem?_eq_some_iff.1 (h b o hb)).1
theorem Sub.none {k : PH} {w : World} (h : Sub k w) {b : Nat} (hb : w.heap.size ≤ b) : k b = none := by
  cases e : k b with
  | none => rfl
  | some o => have := h.lt e; omega
theorem Sub.mono {h k : PH} {w : World} (hs : Sub k w) (hl : Le h k) : Sub h w := fun b o e => hs b o (hl b o e)
theorem Sub.below {k : PH} {w w' : World} (h : Sub k w) (hb : Below w.heap.size w w') : Sub k w' := fun b o e => by
  rw [hb.block b (h.lt e)]; exact h b o e
theorem Agr.le {k k' : PH} {w : World} (h : Agr w.heap.size k k') (hs : Sub k w) : Le k k' := fun b o e => by
  rw [h b (hs.lt e)]; exact e
theorem Agr.refl (N : Nat) (k : PH) : Agr N k k := fun _ _ => rfl

/-- The frame of a call: its world at the start, what was known of it, and which old blocks it may turn. -/
structure Fr where
  w0 : World
  k0 : PH
  mu : Nat → Prop

structure St (F : Fr) (k : PH) (w : World) : Prop where
  os : w.os = F.w0.os
  tape : w.tape = F.w0.tape
  output : w.output = F.w0.output
  size : F.w0.heap.size ≤ w.heap.size
  old : ∀ b, b < F.w0.heap.size → ¬ F.mu b → w.heap[b]? = F.w0.heap[b]?
  sub : Sub k w
  keep : ∀ b, b < F.w0.heap.size → ¬ F.mu b → k b = F.k0 b

theorem St.step {F : Fr} {k k' : PH} {w w' : World} (h : St F k w) (hb : Below w.heap.size w w') (ha : Agr w.heap.size k k') (hs : Sub k' w') : St F k' w' :=
  ⟨hb.os.trans h.os, hb.tape.trans h.tape, hb.output.trans h.output, Nat.le_trans h.size hb.size,
    fun b hl hm => (hb.block b (Nat.lt_of_lt_of_le hl h.size)).trans (h.old b hl hm), hs,
    fun b hl hm => (ha b (Nat.lt_of_lt_of_le hl h.size)).trans (h.keep b hl hm)⟩
theorem St.below {F : Fr} {k : PH} {w w' : World} (h : St F k w) (hb : Below w.heap.size w w') : St F k w' :=
  h.step hb (Agr.refl _ _) (h.sub.below hb)
/-- A draw. -/
theorem below_drawn (w : World) (n : Nat) : Below w.heap.size w { w with drawn := n } := ⟨rfl, rfl, rfl, Nat.le_refl _, fun _ _ => rfl⟩

/-! ### what is known of a frame -/
inductive PV where
  | is (v : Value)
  | such (φ : PH → Value → Prop)

def PV.holds (k : PH) (u : Value) : PV → Prop
  | .is v => u = v
  | .such φ => φ k u
def PV.Mono : PV → Prop
  | .is _ => True
  | .such φ => ∀ k k' v, Le k k' → φ k v → φ k' v
theorem PV.holds_mono {p : PV} (hm : p.Mono) {k k' : PH} {u : Value} (hl : Le k k') (h : p.holds k u) : p.holds k' u := by
  cases p with
  | is v => exact h
  | such φ => exact hm k k' u hl h

abbrev Env := List (Nat × PV)
def get : Env → Nat → Option PV
  | [], _ => none
  | (d, p) :: r, t => match Nat.beq d t with | true => some p | false => get r t
def set (e : Env) : Option Nat → PV → Env
  | some d, p => (d, p) :: e
  | none, _ => e
/-- All of e' is known by e. -/
def EnvLe : Env → Env → Prop
  | [], _ => True
  | (t, p) :: r, e => get e t = some p ∧ EnvLe r e
def det : Env → Bool
  | [] => true
  | (_, .is _) :: r => det r
  | (_, .such _) :: _ => false

theorem get_cons_same (d : Nat) (p : PV) (r : Env) : get ((d, p) :: r) d = some p := by simp [get]
theorem get_cons_other {d t : Nat} (p : PV) (r : Env) (h : d ≠ t) : get ((d, p) :: r) t = get r t := by
  have : Nat.beq d t = false := by
    cases e : Nat.beq d t with
    | false => rfl
    | true => exact absurd (Nat.eq_of_beq_eq_true e) h
  simp [get, this]

theorem EnvLe.get {e' e : Env} (h : EnvLe e' e) {t : Nat} {p : PV} (hg : get e' t = some p) : get e t = some p := by
  induction e' with
  | nil => simp [Wm.get] at hg
  | cons x r ih =>
    obtain ⟨d, q⟩ := x
    by_cases hd : d = t
    · subst hd
      rw [get_cons_same] at hg
      cases hg
      exact h.1
    · rw [get_cons_other _ _ hd] at hg
      exact ih h.2 hg
theorem det_get {e : Env} (hd : det e = true) {t : Nat} {p : PV} (hg : get e t = some p) : ∃ v, p = .is v := by
  induction e with
  | nil => simp [get] at hg
  | cons x r ih =>
    obtain ⟨d, q⟩ := x
    cases q with
    | such φ => simp [det] at hd
    | is v =>
      by_cases ht : d = t
      · subst ht
        rw [get_cons_same] at hg
        cases hg
        exact ⟨v, rfl⟩
      · rw [get_cons_other _ _ ht] at hg
        exact ih hd hg

structure Ag (n : Nat) (e : Env) (k : PH) (a : Act) : Prop where
  size : a.tmps.size = n
  defers : a.defers = Dfr.ds
  get : ∀ t p, get e t = some p → p.holds k (a.tmps.getD t undef)

theorem Ag.le {n : Nat} {e e' : Env} {k : PH} {a : Act} (h : Ag n e k a) (hl : EnvLe e' e) : Ag n e' k a :=
  ⟨h.size, h.defers, fun t p hg => h.get t p (hl.get hg)⟩
theorem Ag.heap {n : Nat} {e : Env} {k k' : PH} {a : Act} (h : Ag n e k a) (hd : det e = true) : Ag n e k' a :=
  ⟨h.size, h.defers, fun t p hg => by
    obtain ⟨v, rfl⟩ := det_get hd hg
    exact h.get t _ hg⟩

def opv (e : Env) : Operand → Option Value
  | .tmp t => match get e t with | some (.is v) => some v | _ => none
  | .const v => some v
  | .global g => some (.pointer (some ⟨g, 0, none⟩))
  | .func f => some (.func (.func f) #[] #[])
/-- The frame gives each known operand of the list its value. -/
def Evs (e : Env) (ev : Operand → Value) (xs : List Operand) : Prop := ∀ x ∈ xs, ∀ u, opv e x = some u → ev x = u

theorem put_getD_same {a : Act} {d : Nat} {v : Value} (h : d < a.tmps.size) : (a.put (some d) v).tmps.getD d undef = v := by
  simp [Act.put, Array.getD, h]
theorem put_getD_other {a : Act} {d t : Nat} {v : Value} (h : d ≠ t) : (a.put (some d) v).tmps.getD t undef = a.tmps.getD t undef := by
  simp only [Act.put, Array.getD_eq_getD_getElem?, Array.getElem?_setIfInBounds, h, if_false]
theorem put_size (a : Act) (d : Option Nat) (v : Value) : (a.put d v).tmps.size = a.tmps.size := by
  cases d <;> simp [Act.put]
theorem put_defers (a : Act) (d : Option Nat) (v : Value) : (a.put d v).defers = a.defers := by
  cases d <;> rfl
def fits (n : Nat) : Option Nat → Bool
  | some d => Nat.blt d n
  | none => true
theorem Ag.put {n : Nat} {e : Env} {k : PH} {a : Act} (h : Ag n e k a) {d : Option Nat} (hf : fits n d = true) {p : PV} {v : Value} (hp : p.holds k v) :
    Ag n (set e d p) k (a.put d v) := by
  refine ⟨(put_size a d v).trans h.size, (put_defers a d v).trans h.defers, fun t q hg => ?_⟩
  cases d with
  | none => exact h.get t q hg
  | some d =>
    have hd : d < n := by simpa [fits, Nat.blt_eq] using hf
    by_cases ht : d = t
    · subst ht
      rw [show set e (some d) p = (d, p) :: e from rfl, get_cons_same] at hg
      cases hg
      rw [put_getD_same (by rw [h.size]; exact hd)]
      exact hp
    · rw [show set e (some d) p = (d, p) :: e from rfl, get_cons_other _ _ ht] at hg
      rw [put_getD_other ht]
      exact h.get t q hg

/-! ### one operation -/
/-- The operation yields some value and world that are so. -/
def Ex (P : Program) (o : Oper) (a : Act) (w : World) (φ : Value → World → Prop) : Prop :=
  ∀ (K : Act → World → Prop) (Q : Exit → Act → World → Prop), (∀ v w', φ v w' → K (a.put o.dst v) w') → o.wp P a w K Q

theorem Ex.mono {P : Program} {o : Oper} {a : Act} {w : World} {φ ψ : Value → World → Prop} (h : Ex P o a w φ) (hm : ∀ v w', φ v w' → ψ v w') : Ex P o a w ψ :=
  fun K Q hK => h K Q fun v w' hv => hK v w' (hm v w' hv)
theorem ex_value {P : Program} {o : Oper} {a : Act} {w w' : World} {v : Value} (h : (execOp a.eval o).run P w = .ok (.value v) w') : Ex P o a w fun u u' => u = v ∧ u' = w' := by
  intro K Q hK
  unfold Oper.wp
  rw [h]
  exact hK v w' ⟨rfl, rfl⟩
theorem ex_skip {P : Program} {o : Oper} {a : Act} {w w' : World} (h : (execOp a.eval o).run P w = .ok .skip w') : Ex P o a w fun u u' => u = undef ∧ u' = w' := by
  intro K Q hK
  unfold Oper.wp
  rw [h]
  exact hK undef w' ⟨rfl, rfl⟩
theorem ex_enter {P : Program} {o : Oper} {a : Act} {w w1 : World} {f : FuncId} {args : Array Value} {φ : Value → World → Prop} (h : (execOp a.eval o).run P w = .ok (.enter f args) w1)
    (hc : Calls P f args w1 fun e w' => ∃ v, e = .returned v ∧ φ v w') : Ex P o a w φ := by
  intro K Q hK
  unfold Oper.wp
  rw [h]
  exact hc.mono fun e w' ⟨v, he, hv⟩ => by subst he; exact hK v w' hv

/-- What one operation does that turns no old block: in whatever world that knows kr at least, with what it looks at as e says. -/
def Loc (P : Program) (n : Nat) (ops : Array Oper) (o : Oper) (e : Env) (kr : PH) (p : PV) : Prop :=
  p.Mono ∧ ∀ (a : Act) (w : World) (k : PH), Le kr k → Sub k w → a.tmps.size = n →
    (∀ t ∈ o.looksAt ops, ∀ q, get e t = some q → q.holds k (a.tmps.getD t undef)) →
    if Region.wanted o (yielded ops a.tmps) then
      Ex P o a w (fun v w' => ∃ k', Below w.heap.size w w' ∧ Agr w.heap.size k k' ∧ Sub k' w' ∧ p.holds k' v)
    else p.holds k undef

/-! ### a region in the text's order, with effects -/
def RG (P : Program) (F : Fr) (n : Nat) (ops : Array Oper) (Q : Exit → Act → World → Prop) (rest : List Oper) (e : Env) (k : PH) : Prop :=
  ∀ a w, Ag n e k a → St F k w → wpList P ops Q rest a w
def EG (F : Fr) (n : Nat) (X : Act → World → Prop) (e : Env) (k : PH) : Prop := ∀ a w, Ag n e k a → St F k w → X a w
def CG (P : Program) (F : Fr) (n : Nat) (Q : Exit → Act → World → Prop) (c : Code) (e : Env) (k : PH) : Prop :=
  ∀ a w, Ag n e k a → St F k w → c.wp P Q a w

section
variable {P : Program} {F : Fr} {n : Nat} {ops : Array Oper} {Q : Exit → Act → World → Prop} {rest : List Oper} {o : Oper} {e : Env} {k : PH}

theorem rg_nil (h : EG F n (Q .normal) e k) : RG P F n ops Q [] e k := fun a w ha hs => h a w ha hs

theorem ag_looks {a : Act} (ha : Ag n e k a) : ∀ t ∈ o.looksAt ops, ∀ q, get e t = some q → q.holds k (a.tmps.getD t undef) := fun t _ q hg => ha.get t q hg

theorem rg_det {v : Value} (hf : fits n o.dst = true) (hl : Loc P n ops o e k (.is v)) (h : RG P F n ops Q rest (set e o.dst (.is v)) k) : RG P F n ops Q (o :: rest) e k := by
  intro a w ha hs
  have := hl.2 a w k (Le.refl _) hs.sub ha.size (ag_looks ha)
  unfold wpList
  split
  · rename_i hw
    rw [if_pos hw] at this
    refine .inl (this _ _ fun u w' ⟨k', hb, hag, hsub, hp⟩ => h _ _ (ha.put hf hp) (hs.below hb))
  · rename_i hw
    rw [if_neg hw] at this
    exact h _ _ (ha.put hf this) hs
theorem rg_such {φ : PH → Value → Prop} (hd : det e = true) (hf : fits n o.dst = true) (hl : Loc P n ops o e k (.such φ)) (h : ∀ k', Le k k' → ∀ v, φ k' v → RG P F n ops Q rest (set e o.dst (.is v)) k') :
    RG P F n ops Q (o :: rest) e k := by
  intro a w ha hs
  have := hl.2 a w k (Le.refl _) hs.sub ha.size (ag_looks ha)
  unfold wpList
  split
  · rename_i hw
    rw [if_pos hw] at this
    refine .inl (this _ _ fun u w' ⟨k', hb, hag, hsub, hp⟩ => h k' (hag.le hs.sub) u hp _ _ ?_ (hs.step hb hag hsub))
    exact (ha.heap (k' := k') hd).put hf rfl
  · rename_i hw
    rw [if_neg hw] at this
    exact h k (Le.refl _) _ this _ _ (ha.put hf rfl) hs

theorem cg_region {id : Nat} {l : List Oper} (h : RG P F n l.toArray Q l e k) : CG P F n Q (.region id l.toArray false) e k := fun a w ha hs => wp_region_lit (h a w ha hs)
theorem cg_seq {x y : Code} (h : CG P F n (Exit.then (y.wp P Q) Q) x e k) : CG P F n Q (.seq x y) e k := fun a w ha hs => wp_seq (h a w ha hs)
theorem cg_skip (h : EG F n (Q .normal) e k) : CG P F n Q .skip e k := fun a w ha hs => wp_skip (h a w ha hs)
theorem cg_label {l : Nat} (h : EG F n (Q .normal) e k) : CG P F n Q (.label l) e k := fun a w ha hs => wp_label (h a w ha hs)
theorem cg_exit {id : Nat} (h : EG F n (Q (.exit id)) e k) : CG P F n Q (.exit id) e k := fun a w ha hs => wp_exit (h a w ha hs)
theorem cg_goto {id : Nat} (h : EG F n (Q (.goto id)) e k) : CG P F n Q (.goto id) e k := fun a w ha hs => wp_goto (h a w ha hs)
theorem cg_ret (h : EG F n (Q .ret) e k) : CG P F n Q .ret e k := fun a w ha hs => wp_ret (h a w ha hs)
theorem cg_block {id : Nat} {c : Code} (h : CG P F n (Exit.inBlock id Q) c e k) : CG P F n Q (.block id c) e k := fun a w ha hs => wp_block (h a w ha hs)
theorem Ag.eval {a : Act} (ha : Ag n e k a) {x : Operand} {v : Value} (hx : opv e x = some v) : a.eval x = v := by
  cases x with
  | tmp t =>
    simp only [opv] at hx
    split at hx
    · rename_i u hu
      cases hx
      exact ha.get t _ hu
    · cases hx
  | const u => cases hx; rfl
  | global g => cases hx; rfl
  | func f => cases hx; rfl
theorem cg_cond {c : Operand} {x y : Code} {b : Bool} (hc : opv e c = some (.bool b)) (ht : b = true → CG P F n Q x e k) (hf : b = false → CG P F n Q y e k) : CG P F n Q (.cond c x y) e k :=
  fun a w ha hs => wp_cond_split (ha.eval hc) (fun h => ht h a w ha hs) (fun h => hf h a w ha hs)
theorem cg_cond_true {c : Operand} {x y : Code} (hc : opv e c = some (.bool true)) (ht : CG P F n Q x e k) : CG P F n Q (.cond c x y) e k :=
  cg_cond hc (fun _ => ht) (fun h => by cases h)
theorem cg_cond_false {c : Operand} {x y : Code} (hc : opv e c = some (.bool false)) (hf : CG P F n Q y e k) : CG P F n Q (.cond c x y) e k :=
  cg_cond hc (fun h => by cases h) (fun _ => hf)

/-- A loop: the relation over whatever x, the environment and the heap at its head. -/
theorem cg_loop {ι : Type} (I : ι → Env → PH → Prop) (μ : ι → Nat) (i0 : ι) {e0 : Env} (h0 : I i0 e0 k) (hle : EnvLe e0 e) {c : Code}
    (round : ∀ i e k, I i e k → CG P F n (Exit.then (fun a w => ∃ j e' k', I j e' k' ∧ μ j < μ i ∧ Ag n e' k' a ∧ St F k' w) Q) c e k) : CG P F n Q (.loop c) e k := by
  intro a w ha hs b ks cs
  have key : ∀ m i e k a w, μ i = m → I i e k → Ag n e k a → St F k w →
      ∃ ex a' w', Q ex a' w' ∧ Arrives P (lone (b.at a (.code c :: .inLoop c :: ks)) cs w) b ks cs ex a' w' := by
    intro m
    induction m using Nat.strongRecOn with
    | _ m ih =>
      intro i e k a w hm hI ha hs
      obtain ⟨ex, a₁, w₁, hq, harr⟩ := round i e k hI a w ha hs b (.inLoop c :: ks) cs
      cases ex with
      | normal =>
        obtain ⟨j, e', k', hI₁, hlt, ha', hs'⟩ := hq
        obtain ⟨e₂, a₂, w₂, hq₂, harr₂⟩ := ih (μ j) (hm ▸ hlt) j e' k' a₁ w₁ rfl hI₁ ha' hs'
        exact ⟨e₂, a₂, w₂, hq₂, .of_steps (Steps.trans harr (.one step_inLoop)) harr₂⟩
      | exit id => exact ⟨_, a₁, w₁, hq, .pass (x := .inLoop c) rfl (fun _ _ => .inl (by simp)) harr⟩
      | goto l => exact ⟨_, a₁, w₁, hq, .pass (x := .inLoop c) rfl (fun _ _ => .inl (by simp)) harr⟩
      | ret => exact ⟨_, a₁, w₁, hq, .pass (x := .inLoop c) rfl (fun _ _ => .inl (by simp)) harr⟩
      | panic ch => exact ⟨_, a₁, w₁, hq, .pass (x := .inLoop c) rfl (fun _ _ => .inl (by simp)) harr⟩
      | outgrown => exact ⟨_, a₁, w₁, hq, .pass (x := .inLoop c) rfl (fun _ _ => .inl (by simp)) harr⟩
  obtain ⟨ex, a', w', hq, harr⟩ := key _ i0 e0 k a w rfl h0 (ha.le hle) hs
  exact ⟨ex, a', w', hq, .of_steps (.one step_loop) harr⟩

theorem cg_env {c : Code} (e' : Env) (hle : EnvLe e' e) (h : CG P F n Q c e' k) : CG P F n Q c e k := fun a w ha hs => h a w (ha.le hle) hs
/-! the ways on -/
theorem eg_then {y : Code} (h : CG P F n Q y e k) : EG F n (Exit.then (y.wp P Q) Q .normal) e k := h
theorem eg_then_exit {N : Act → World → Prop} {id : Nat} (h : EG F n (Q (.exit id)) e k) : EG F n (Exit.then N Q (.exit id)) e k := h
theorem eg_then_ret {N : Act → World → Prop} (h : EG F n (Q .ret) e k) : EG F n (Exit.then N Q .ret) e k := h
theorem eg_then_goto {N : Act → World → Prop} {l : Nat} (h : EG F n (Q (.goto l)) e k) : EG F n (Exit.then N Q (.goto l)) e k := h
theorem eg_in_normal {id : Nat} (h : EG F n (Q .normal) e k) : EG F n (Exit.inBlock id Q .normal) e k := h
theorem eg_in_ret {id : Nat} (h : EG F n (Q .ret) e k) : EG F n (Exit.inBlock id Q .ret) e k := h
theorem eg_in_goto {id l : Nat} (h : EG F n (Q (.goto l)) e k) : EG F n (Exit.inBlock id Q (.goto l)) e k := h
theorem eg_in_exit {id : Nat} (h : EG F n (Q .normal) e k) : EG F n (Exit.inBlock id Q (.exit id)) e k := fun a w ha hs => by
  simp only [Exit.inBlock, if_true]; exact h a w ha hs
theorem eg_in_other {id id' : Nat} (hne : Nat.beq id' id = false) (h : EG F n (Q (.exit id')) e k) : EG F n (Exit.inBlock id Q (.exit id')) e k := fun a w ha hs => by
  have : id' ≠ id := fun h => by rw [h, Nat.beq_refl] at hne; cases hne
  simp only [Exit.inBlock, this, if_false]; exact h a w ha hs
end

/-! ### a call -/
/-- What a call that turns nothing old leaves: a value, and what is known of the heap then. -/
def Ret (k : PH) (w : World) (φ : PH → Value → Prop) (e : Ending) (w' : World) : Prop :=
  ∃ v k', e = .returned v ∧ Below w.heap.size w w' ∧ Agr w.heap.size k k' ∧ Sub k' w' ∧ φ k' v
/-- Called where k is known at least. -/
def CT (P : Program) (f : FuncId) (args : Array Value) (kr : PH) (φ : PH → Value → Prop) : Prop :=
  ∀ w k, Le kr k → Sub k w → Calls P f args w (Ret k w φ)
theorem CT.mono {P : Program} {f : FuncId} {args : Array Value} {k k' : PH} {φ ψ : PH → Value → Prop} (h : CT P f args k φ) (hl : Le k k') (hm : ∀ k v, φ k v → ψ k v) : CT P f args k' ψ :=
  fun w k1 hk hs => (h w k1 (hl.trans hk) hs).mono fun _ _ ⟨v, k2, h1, h2, h3, h4, h5⟩ => ⟨v, k2, h1, h2, h3, h4, hm _ _ h5⟩

def RetF (F : Fr) (φ : PH → Value → Prop) (e : Ending) (w' : World) : Prop := ∃ v k', e = .returned v ∧ St F k' w' ∧ φ k' v

def argEnv : Nat → List Value → Env
  | _, [] => []
  | i, v :: r => (i, .is v) :: argEnv (i + 1) r
theorem argEnv_get : ∀ (l : List Value) (i t : Nat) (p : PV), get (argEnv i l) t = some p → ∃ v, p = .is v ∧ i ≤ t ∧ l[t - i]? = some v
  | [], _, _, _, h => by simp [argEnv, get] at h
  | v :: r, i, t, p, h => by
    by_cases ht : i = t
    · subst ht
      rw [argEnv, get_cons_same] at h
      cases h
      exact ⟨v, rfl, Nat.le_refl _, by simp⟩
    · rw [argEnv, get_cons_other _ _ ht] at h
      obtain ⟨u, hp, hi, hu⟩ := argEnv_get r (i + 1) t p h
      refine ⟨u, hp, by omega, ?_⟩
      rw [show t - i = (t - (i + 1)) + 1 by omega]
      simpa using hu
theorem ag_args {n : Nat} {l : List Value} {k : PH} (hl : l.length ≤ n) (hD : Dfr.ds = [] := by rfl) :
    Ag n (argEnv 0 l) k { tmps := l.toArray ++ Array.replicate (n - l.toArray.size) undef, defers := [] } := by
  refine ⟨by simp; omega, hD.symm, fun t p hg => ?_⟩
  obtain ⟨v, rfl, _, hv⟩ := argEnv_get l 0 t p hg
  simp only [Nat.sub_zero] at hv
  have hlt : t < l.length := (List.getElem?_eq_some_iff.1 hv).1
  show _ = v
  rw [Array.getD_eq_getD_getElem?, Array.getElem?_append_left (by simpa using hlt)]
  simp [hv]

theorem ct_of_body {P : Program} {f : FuncId} {fn : Func} {c : Code} {l : List Value} {k : PH} {φ : PH → Value → Prop} (hf : P.funcs[f]? = some fn) (hb : fn.body = some c) {n : Nat} (hn : fn.ntmps = n)
    (hl : l.length ≤ n) (hm : ∀ k k' v, Le k k' → φ k v → φ k' v)
    (h : ∀ F : Fr, F.k0 = k → (F.mu = fun _ => False) → CG P F n (bodyPost P fn (RetF F φ)) c (argEnv 0 l) k) (hD : Dfr.ds = [] := by rfl) : CT P f l.toArray k φ := by
  intro w k1 hle hs
  have hs0 : St ⟨w, k, fun _ => False⟩ k w := ⟨rfl, rfl, rfl, Nat.le_refl _, fun _ _ _ => rfl, hs.mono hle, fun _ _ _ => rfl⟩
  subst hn
  refine Calls.mono (calls_of_wp (R := RetF ⟨w, k, fun _ => False⟩ φ) hf hb (h ⟨w, k, fun _ => False⟩ rfl rfl _ w (ag_args hl hD) hs0)) ?_
  rintro e w' ⟨v, kc, he, hst, hφ⟩
  refine ⟨v, fun b => if b < w.heap.size then k1 b else kc b, he, ⟨hst.os, hst.tape, hst.output, hst.size, fun b hb => hst.old b hb (fun h => h)⟩, fun b hb => by simp [hb], ?_, ?_⟩
  · intro b o hb
    by_cases hlt : b < w.heap.size
    · simp only [hlt, if_true] at hb
      rw [hst.old b hlt (fun h => h)]
      exact hs b o hb
    · simp only [hlt, if_false] at hb
      exact hst.sub b o hb
  · refine hm kc _ v (fun b o hb => ?_) hφ
    by_cases hlt : b < w.heap.size
    · simp only [hlt, if_true]
      rw [hst.keep b hlt (fun h => h)] at hb
      exact hle b o hb
    · simp only [hlt, if_false]
      exact hb

section
variable {P : Program} {F : Fr} {n : Nat} {e : Env} {k : PH}
theorem eg_return {fn : Func} {φ : PH → Value → Prop} {t : Nat} (hr : fn.results = #[.tmp t]) {v : Value} (hv : get e t = some (.is v)) (hφ : φ k v) (hD : Dfr.ds = [] := by rfl) : EG F n (bodyPost P fn (RetF F φ) .ret) e k := by
  intro a w ha hs
  have := ha.get t _ hv
  exact bodyPost_ret (results_tmp hr _ _ _) (ha.defers.trans hD) ⟨_, k, rfl, hs, by rw [show a.tmps.getD t undef = v from this]; exact hφ⟩
theorem eg_return2 {fn : Func} {φ : PH → Value → Prop} {t u : Nat} (hr : fn.results = #[.tmp t, .tmp u]) {v x : Value} (hv : get e t = some (.is v)) (hx : get e u = some (.is x)) (hφ : φ k (.tuple #[v, x])) (hD : Dfr.ds = [] := by rfl) :
    EG F n (bodyPost P fn (RetF F φ) .ret) e k := by
  intro a w ha hs
  have h1 := ha.get t _ hv
  have h2 := ha.get u _ hx
  exact bodyPost_ret (results_tmp2 hr _ _ _) (ha.defers.trans hD) ⟨_, k, rfl, hs, by rw [show a.tmps.getD t undef = v from h1, show a.tmps.getD u undef = x from h2]; exact hφ⟩
end
end Go.Wm

/-
  The laws of single operations for this seat's calculus: what each yields, from what is known of its operands and of memory. Conditions: the facts on types that the program's tables give (classes TyU, TyI, FnOk).
-/
namespace Go.Wm
variable [Dfr]
open Go.RowKit

class TyU (P : Program) (t : TypeId) (d : outParam TypeDesc) : Prop where
  eq : P.underlying t = some d
/-- A type's cells, bytes and zero. -/
class TyI (P : Program) (t : TypeId) (sz : outParam Nat) (by' : outParam Nat) (z : outParam Value) : Prop where
  eq : ∃ i, P.info? t = some i ∧ i.size = sz ∧ i.bytes = by' ∧ i.zero = some z
class FnOk (P : Program) (f : FuncId) : Prop where
  eq : ∃ fn, P.funcs[f]? = some fn ∧ (fn.name == "runtime.NumGoroutine") = false ∧ fn.body.isNone = false

section
variable {P : Program} {n : Nat} {ops : Array Oper} {o : Oper} {e : Env} {k : PH}

def wantedE (ops : Array Oper) (e : Env) (o : Oper) : Option Bool :=
  match o.guard with
  | none => some true
  | some (j, b) => match (ops[j]?).bind (·.dst) with
    | some t => match get e t with
      | some (.is (.bool c)) => some (c == b)
      | some (.is (.tuple _)) => some false
      | _ => none
    | none => none

theorem getD_bool {l : Array Value} {t : Nat} {c : Bool} (h : l.getD t undef = .bool c) : l[t]? = some (.bool c) := by
  rw [Array.getD_eq_getD_getElem?] at h
  cases e : l[t]? with
  | none => simp [e, undef] at h
  | some v => simp [e] at h; rw [h]

theorem wanted_of {a : Act} (hl : ∀ t ∈ o.looksAt ops, ∀ q, get e t = some q → q.holds k (a.tmps.getD t undef)) {b : Bool} (h : wantedE ops e o = some b) : Region.wanted o (yielded ops a.tmps) = b := by
  unfold wantedE at h
  unfold Region.wanted
  split at h
  · rename_i hg
    simp only [hg]
    simpa using h
  · rename_i j want hg
    simp only [hg]
    split at h
    · rename_i t ht
      split at h
      · rename_i c hc
        have hmem : t ∈ o.looksAt ops := by
          unfold Oper.looksAt
          simp [hg, ht]
        have := hl t hmem _ hc
        have h2 := getD_bool (show a.tmps.getD t undef = .bool c from this)
        simp only [yielded, ht, Option.bind_some, h2]
        cases h
        cases c <;> cases want <;> rfl
      · rename_i vs hc
        have hmem : t ∈ o.looksAt ops := by
          unfold Oper.looksAt
          simp [hg, ht]
        have := hl t hmem _ hc
        have h2 : a.tmps.getD t undef = .tuple vs := this
        rw [Array.getD_eq_getD_getElem?] at h2
        cases h
        simp only [yielded, ht, Option.bind_some]
        cases e : a.tmps[t]? with
        | none => rfl
        | some v =>
          rw [e] at h2
          simp only [Option.getD_some] at h2
          rw [h2]
          rfl
      · cases h
    · cases h

theorem evs_of {a : Act} (hl : ∀ t ∈ o.looksAt ops, ∀ q, get e t = some q → q.holds k (a.tmps.getD t undef)) : Evs e a.eval o.op.operands.toList := by
  intro x hx u hu
  cases x with
  | tmp t =>
    simp only [opv] at hu
    split at hu
    · rename_i v hv
      cases hu
      have hmem : t ∈ o.looksAt ops := by
        unfold Oper.looksAt
        refine List.mem_append.2 (.inl ?_)
        rw [List.mem_filterMap]
        exact ⟨.tmp t, hx, rfl⟩
      exact hl t hmem _ hv
    · cases hu
  | const u => cases hu; rfl
  | global g => cases hu; rfl
  | func f => cases hu; rfl

/-- In every world that knows k the operation yields v and leaves the world as it is. -/
def Det (P : Program) (e : Env) (k : PH) (o : Oper) (v : Value) : Prop :=
  ∀ ev w, Evs e ev o.op.operands.toList → Sub k w → (execOp ev o).run P w = .ok (.value v) w
/-- It makes a block. -/
def Alc (P : Program) (e : Env) (k : PH) (o : Oper) (vf : Nat → Value) (obj : Obj) : Prop :=
  ∀ ev w, Evs e ev o.op.operands.toList → Sub k w → (execOp ev o).run P w = .ok (.value (vf w.heap.size)) (w.alloc obj)

theorem loc_det {v : Value} (hg : wantedE ops e o = some true) (h : Det P e k o v) : Loc P n ops o e k (.is v) := by
  refine ⟨trivial, fun a w k1 hk hs _ hl => ?_⟩
  rw [if_pos (wanted_of hl hg)]
  exact (ex_value (h a.eval w (evs_of hl) (hs.mono hk))).mono fun u u' ⟨h1, h2⟩ => by
    subst h2
    exact ⟨k1, Below.refl _ _, Agr.refl _ _, hs, h1⟩
theorem loc_off (hg : wantedE ops e o = some false) : Loc P n ops o e k (.is undef) := by
  refine ⟨trivial, fun a w k1 hk hs _ hl => ?_⟩
  rw [if_neg (by rw [wanted_of hl hg]; simp)]
  rfl
theorem below_alloc (w : World) (obj : Obj) : Below w.heap.size w (w.alloc obj) := (Below.refl _ _).alloc (Nat.le_refl _) obj
theorem sub_alloc {k : PH} {w : World} (h : Sub k w) (obj : Obj) : Sub (upd k w.heap.size obj) (w.alloc obj) := by
  intro b o hb
  by_cases hbs : b = w.heap.size
  · subst hbs
    rw [upd_same] at hb
    cases hb
    show (w.heap.push obj)[w.heap.size]? = _
    simp
  · rw [upd_other hbs] at hb
    have := h.lt hb
    rw [Below.heap_alloc _ _ _ this]
    exact h b o hb
theorem agr_upd {k : PH} {N b : Nat} (h : N ≤ b) (obj : Obj) : Agr N k (upd k b obj) := fun i hi => upd_other (by omega)
/-- A new block, of which it is known that it was none of those known before, and none from before N. -/
def New (kr : PH) (vf : Nat → Value) (obj : Obj) (k : PH) (v : Value) : Prop := ∃ b, v = vf b ∧ k b = some obj ∧ kr b = none
theorem loc_alloc {vf : Nat → Value} {obj : Obj} (hg : wantedE ops e o = some true) (h : Alc P e k o vf obj) : Loc P n ops o e k (.such (New k vf obj)) := by
  refine ⟨fun k1 k2 v hl ⟨b, h1, h2, h3⟩ => ⟨b, h1, hl b _ h2, h3⟩, fun a w k1 hk hs _ hl => ?_⟩
  rw [if_pos (wanted_of hl hg)]
  exact (ex_value (h a.eval w (evs_of hl) (hs.mono hk))).mono fun u u' ⟨h1, h2⟩ => by
    subst h2
    exact ⟨upd k1 w.heap.size obj, below_alloc _ _, agr_upd (Nat.le_refl _) _, sub_alloc hs _, _, h1, upd_same _ _ _, (hs.mono hk).none (Nat.le_refl _)⟩

/-! ### calls -/
def opvs (e : Env) : List Operand → Option (List Value)
  | [] => some []
  | x :: r => match opv e x with
    | some v => match opvs e r with
      | some vs => some (v :: vs)
      | none => none
    | none => none
theorem opvs_eval {ev : Operand → Value} : ∀ (l : List Operand) (vs : List Value), Evs e ev l → opvs e l = some vs → l.map ev = vs
  | [], vs, _, h => by simpa [opvs] using h
  | x :: r, vs, hev, h => by
    simp only [opvs] at h
    split at h
    · rename_i v hv
      split at h
      · rename_i us hus
        cases h
        rw [List.map_cons, hev x (by simp) v hv, opvs_eval r us (fun y hy => hev y (by simp [hy])) hus]
      · cases h
    · cases h
theorem run_enter {f : FuncId} (args : Array Value) (w : World) [h : FnOk P f] : (callFunc f args).run P w = .ok (.enter f args) w := by
  obtain ⟨fn, h1, h2, h3⟩ := h.eq
  have h4 : fn.name ≠ "runtime.NumGoroutine" := by simpa using h2
  have h5 : fn.body ≠ none := by
    intro hb
    rw [hb] at h3
    cases h3
  simp [callFunc, h1, h4, h5, program, Sem.run]

theorem run_call {ev : Operand → Value} {w : World} {x : Operand} {args : Array Operand} {ats : Array TypeId} {g : FuncId} {first cap : Array Value} {vs : List Value} [FnOk P g]
    (hop : o.op = .call { callee := .value x, args := args, argTypes := ats }) (hx : opv e x = some (.func (.func g) first cap)) (ha : opvs e args.toList = some vs) (hev : Evs e ev o.op.operands.toList) :
    (execOp ev o).run P w = .ok (.enter g (first ++ vs.toArray ++ cap)) w := by
  rw [hop] at hev
  have h1 : ev x = .func (.func g) first cap := hev x (by simp [Op.operands, Call.operands]) _ hx
  have h2 := opvs_eval args.toList vs (fun y hy => hev y (by simp [Op.operands, Call.operands] at hy ⊢; exact .inr hy)) ha
  have h3 : args.map ev = vs.toArray := by
    rw [← h2]; apply Array.toList_inj.1; simp
  simp only [execOp, hop, resolve, h1, h3, Deferred.ofValue, invoke, bind]
  simp [Sem.bind, pure]
  exact run_enter _ w

/-- A call by its contract. -/
theorem loc_call {x : Operand} {args : Array Operand} {ats : Array TypeId} {g : FuncId} {first cap : Array Value} {vs : List Value} [FnOk P g] {φ : PH → Value → Prop}
    (hg : wantedE ops e o = some true) (hop : o.op = .call { callee := .value x, args := args, argTypes := ats }) (hx : opv e x = some (.func (.func g) first cap)) (ha : opvs e args.toList = some vs)
    (hm : ∀ k k' v, Le k k' → φ k v → φ k' v) (h : CT P g (first ++ vs.toArray ++ cap) k φ) : Loc P n ops o e k (.such φ) := by
  refine ⟨hm, fun a w k1 hk hs _ hl => ?_⟩
  rw [if_pos (wanted_of hl hg)]
  exact ex_enter (run_call hop hx ha (evs_of hl)) ((h w k1 hk hs).mono fun e w' ⟨v, k', h1, h2, h3, h4, h5⟩ => ⟨v, h1, k', h2, h3, h4, h5⟩)
/-- A call whose result is one that is known. -/
theorem loc_call_is {x : Operand} {args : Array Operand} {ats : Array TypeId} {g : FuncId} {first cap : Array Value} {vs : List Value} [FnOk P g] {v : Value}
    (hg : wantedE ops e o = some true) (hop : o.op = .call { callee := .value x, args := args, argTypes := ats }) (hx : opv e x = some (.func (.func g) first cap)) (ha : opvs e args.toList = some vs)
    (h : CT P g (first ++ vs.toArray ++ cap) k (fun _ u => u = v)) : Loc P n ops o e k (.is v) := by
  refine ⟨trivial, fun a w k1 hk hs _ hl => ?_⟩
  rw [if_pos (wanted_of hl hg)]
  exact ex_enter (run_call hop hx ha (evs_of hl)) ((h w k1 hk hs).mono fun e w' ⟨v, k', h1, h2, h3, h4, h5⟩ => ⟨v, h1, k', h2, h3, h4, h5⟩)

/-! ### operations that only reckon -/
def cmpI : BinOp → Int → Int → Option Bool
  | .eql, a, b => some (a == b)
  | .neq, a, b => some (a != b)
  | .lss, a, b => some (decide (a < b))
  | .leq, a, b => some (decide (a ≤ b))
  | .gtr, a, b => some (decide (a > b))
  | .geq, a, b => some (decide (a ≥ b))
  | _, _, _ => none
def cmpS : BinOp → ByteArray → ByteArray → Option Bool
  | .eql, a, b => some (decide (a = b))
  | .neq, a, b => some (!decide (a = b))
  | .lss, a, b => some (decide (a.data.toList < b.data.toList))
  | .leq, a, b => some (decide (a.data.toList < b.data.toList) || decide (a = b))
  | .gtr, a, b => some (!(decide (a.data.toList < b.data.toList) || decide (a = b)))
  | .geq, a, b => some (!decide (a.data.toList < b.data.toList))
  | _, _, _ => none
def peval (e : Env) : Op → Option Value
  | .move x => opv e x
  | .assign x => opv e x
  | .pick c a b => match opv e c with
    | some (.bool true) => opv e a
    | some (.bool false) => opv e b
    | _ => none
  | .nilCheck x => match opv e x with
    | some (.pointer (some a)) => some (.pointer (some a))
    | some (.func (.func f) a b) => some (.func (.func f) a b)
    | _ => none
  | .binOp op _ x y _ => match opv e x, opv e y with
    | some (.int .i64 a), some (.int .i64 b) => match cmpI op a b with
      | some r => some (.bool r)
      | none => none
    | some (.string a), some (.string b) => match cmpS op a b with
      | some r => some (.bool r)
      | none => none
    | _, _ => none
  | .unOp .not _ x => match opv e x with
    | some (.bool b) => some (.bool !b)
    | _ => none
  | .extract x i => match opv e x with
    | some (.tuple vs) => vs[i]?
    | _ => none
  | .makeFunc fn first cap => match opvs e first.toList, opvs e cap.toList with
    | some a, some b => some (.func fn a.toArray b.toArray)
    | _, _ => none
  | _ => none

theorem beq_toList (a b : ByteArray) : (a.toList == b.toList) = decide (a = b) := by
  rw [Lib.toList_data, Lib.toList_data, Bool.eq_iff_iff]
  simp only [beq_iff_eq, decide_eq_true_eq]
  exact ⟨fun h => ByteArray.ext (Array.toList_inj.1 h), fun h => by rw [h]⟩

theorem less_lists : ∀ (p q : List UInt8), Op.bytesLess p q = decide (p < q)
  | [], q => by cases q <;> simp [Op.bytesLess]
  | c :: p, [] => by simp [Op.bytesLess]
  | c :: p, d :: q => by
    simp only [Op.bytesLess, less_lists p q, List.cons_lt_cons_iff]
    by_cases hl : c < d <;> by_cases he : c = d <;> simp [hl, he]

theorem d_pure {v : Value} (h : peval e o.op = some v) : Det P e k o v := by
  intro ev w hev hs
  unfold peval at h
  split at h
  · rename_i x hop
    rw [hop] at hev
    simp [execOp, hop, pure, Sem.run, hev x (by simp [Op.operands]) v h]
  · rename_i x hop
    rw [hop] at hev
    simp [execOp, hop, pure, Sem.run, hev x (by simp [Op.operands]) v h]
  · rename_i c a b hop
    rw [hop] at hev
    split at h
    · rename_i hc
      simp [execOp, hop, pure, Sem.run, hev c (by simp [Op.operands]) _ hc, hev a (by simp [Op.operands]) _ h, asBool, bind, Sem.bind]
    · rename_i hc
      simp [execOp, hop, pure, Sem.run, hev c (by simp [Op.operands]) _ hc, hev b (by simp [Op.operands]) _ h, asBool, bind, Sem.bind]
    · cases h
  · rename_i x hop
    rw [hop] at hev
    split at h
    · rename_i a hc
      cases h
      simp [execOp, hop, pure, Sem.run, hev x (by simp [Op.operands]) _ hc]
    · rename_i f a b hc
      cases h
      simp [execOp, hop, pure, Sem.run, hev x (by simp [Op.operands]) _ hc]
    · cases h
  · rename_i op t x y t' hop
    rw [hop] at hev
    split at h
    · rename_i a b hx hy
      have h1 := hev x (by simp [Op.operands]) _ hx
      have h2 := hev y (by simp [Op.operands]) _ hy
      cases op <;> simp only [cmpI] at h <;> cases h <;> simp [execOp, hop, h1, h2, eqGuard, binOp, Op.intCmp, pure, Sem.run, bind, Sem.bind]
    · rename_i a b hx hy
      have h1 := hev x (by simp [Op.operands]) _ hx
      have h2 := hev y (by simp [Op.operands]) _ hy
      have h3 := beq_toList a b
      have h4 : Op.bytesLess a.toList b.toList = decide (a.data.toList < b.data.toList) := by rw [Lib.toList_data, Lib.toList_data]; exact less_lists _ _
      cases op <;> simp only [cmpS] at h <;> cases h <;> simp only [execOp, hop, h1, h2, eqGuard, binOp, Op.stringOp, pure, bind, h3, h4] <;> simp [Sem.bind, Sem.run, pure]
    · cases h
  · rename_i t x hop
    rw [hop] at hev
    split at h
    · rename_i b hc
      cases h
      simp [execOp, hop, pure, Sem.run, hev x (by simp [Op.operands]) _ hc, Op.unary, bind, Sem.bind]
    · cases h
  · rename_i x i hop
    rw [hop] at hev
    split at h
    · rename_i vs hc
      simp [execOp, hop, pure, Sem.run, hev x (by simp [Op.operands]) _ hc, Instr.extract, bind, Sem.bind, h]
    · cases h
  · rename_i fn first cap hop
    rw [hop] at hev
    split at h
    · rename_i a b ha hb
      cases h
      have h1 := opvs_eval first.toList a (fun y hy => hev y (by simp [Op.operands] at hy ⊢; exact .inl hy)) ha
      have h2 := opvs_eval cap.toList b (fun y hy => hev y (by simp [Op.operands] at hy ⊢; exact .inr hy)) hb
      have h3 : first.map ev = a.toArray := by rw [← h1]; apply Array.toList_inj.1; simp
      have h4 : cap.map ev = b.toArray := by rw [← h2]; apply Array.toList_inj.1; simp
      simp [execOp, hop, h3, h4, Instr.makeFunc, pure, Sem.run, bind, Sem.bind]
    · cases h
  · cases h
end
end Go.Wm

/-
  More laws of single operations for this seat's calculus: arithmetic, lengths, places, loads, slices, equality of flat structs, new blocks, stores. Conditions: the facts on types that the program's tables give.
-/
namespace Go.Wm
variable [Dfr]
open Go.RowKit

def aggD : TypeDesc → Bool
  | .struct _ => true
  | .array _ _ => true
  | _ => false
/-- A struct type's field: where its cells lie, how many, and whether it is a struct or an array itself. -/
class Fld (P : Program) (t : TypeId) (f : Nat) (off : outParam Nat) (sz : outParam Nat) (ag : outParam Bool) : Prop where
  eq : ∃ fs fd d i, P.underlying t = some (.struct fs) ∧ fs[f]? = some fd ∧ fd.offset = off ∧ P.info? fd.type = some i ∧ i.size = sz ∧ P.underlying fd.type = some d ∧ aggD d = ag
/-- A struct type's parts and zero, for literals. -/
class Bld (P : Program) (t : TypeId) (places : outParam (List (Nat × Nat))) (zero : outParam (List Value)) : Prop where
  eq : ∃ fs i z, P.underlying t = some (.struct fs) ∧ P.info? t = some i ∧ i.zero = some z ∧ z.cells = zero.toArray ∧
    ∀ w : World, (fs.mapM fun f => (do pure (f.offset, ← sizeOf f.type) : Sem (Nat × Nat))).run P w = .ok places.toArray w
/-- A struct type whose fields are all plain, of these kinds. -/
class Flat (P : Program) (t : TypeId) (ds : outParam (List (TypeId × TypeDesc))) : Prop where
  eq : P.underlying t = some (.struct (P.fieldsOf t)) ∧ P.stoodInHeld t = false ∧ P.eqGuardType P.depth t = false ∧
    ((P.fieldsOf t).toList.map fun f => (f.name == "_", f.type, f.offset)) = (List.range ds.length).zipWith (fun i d => (false, d.1, i)) ds ∧ ∀ d ∈ ds, P.underlying d.1 = some d.2 ∧ aggD d.2 = false

/-- What is known of a row of cells. -/
def Cells (k : PH) (b off : Nat) (vs : List Value) : Prop := ∃ c et fr, k b = some (.cells c et fr) ∧ ∀ i v, vs[i]? = some v → c[off + i]? = some v
theorem Cells.le {h k : PH} (hl : Le h k) {b off : Nat} {vs : List Value} (hc : Cells h b off vs) : Cells k b off vs := by
  obtain ⟨c, et, fr, h1, h2⟩ := hc
  exact ⟨c, et, fr, hl _ _ h1, h2⟩
theorem Cells.cell {k : PH} {w : World} (hs : Sub k w) {b off : Nat} {vs : List Value} (hc : Cells k b off vs) {i : Nat} {v : Value} (hv : vs[i]? = some v) : w.cell? ⟨b, off + i, none⟩ = some v := by
  obtain ⟨c, et, fr, h1, h2⟩ := hc
  simp only [World.cell?, hs b _ h1, Option.isSome_none, Bool.false_eq_true, if_false]
  exact h2 i v hv
theorem addr_add (b off n : Nat) : (⟨b, off, none⟩ : Addr).add n = ⟨b, off + n, none⟩ := by
  unfold Addr.add; split <;> simp_all
theorem Cells.sub {k : PH} {b off : Nat} {vs us : List Value} (h : Cells k b off vs) (j : Nat) (hu : ∀ i v, us[i]? = some v → vs[j + i]? = some v) : Cells k b (off + j) us := by
  obtain ⟨c, et, fr, h1, h2⟩ := h
  refine ⟨c, et, fr, h1, fun i v hv => ?_⟩
  rw [Nat.add_assoc]
  exact h2 _ v (hu i v hv)

section
variable {P : Program} {n : Nat} {ops : Array Oper} {o : Oper} {e : Env} {k : PH}

theorem run_isAgg {t : TypeId} {d : TypeDesc} (h : P.underlying t = some d) (w : World) : (isAgg t).run P w = .ok (aggD d) w := by
  unfold isAgg
  simp only [Sem.run_bind, run_underlying h, Result.andThen_ok]
  cases d <;> rfl
theorem run_size {t : TypeId} {i : TypeInfo} (h : P.info? t = some i) (w : World) : (sizeOf t).run P w = .ok i.size w := by
  simp [sizeOf, typeInfo, h]

/-! ### whole numbers -/
theorem d_add {t t' : TypeId} {x y : Operand} {a b : Int} (hop : o.op = .binOp .add t x y t') (hx : opv e x = some (.int .i64 a)) (hy : opv e y = some (.int .i64 b)) (h1 : -9223372036854775808 ≤ a + b) (h2 : a + b ≤ 9223372036854775807) : Det P e k o (.int .i64 (a + b)) := by
  intro ev w hev _
  rw [hop] at hev
  have g : IntKind.i64.wrap (a + b) = a + b := by rw [IntKind.wrap_i64]; omega
  simp [execOp, hop, hev x (by simp [Op.operands]) _ hx, hev y (by simp [Op.operands]) _ hy, eqGuard, binOp, Op.intArith, g]
theorem d_sub {t t' : TypeId} {x y : Operand} {a b : Int} (hop : o.op = .binOp .sub t x y t') (hx : opv e x = some (.int .i64 a)) (hy : opv e y = some (.int .i64 b)) (h1 : -9223372036854775808 ≤ a - b) (h2 : a - b ≤ 9223372036854775807) : Det P e k o (.int .i64 (a - b)) := by
  intro ev w hev _
  rw [hop] at hev
  have g : IntKind.i64.wrap (a - b) = a - b := by rw [IntKind.wrap_i64]; omega
  simp [execOp, hop, hev x (by simp [Op.operands]) _ hx, hev y (by simp [Op.operands]) _ hy, eqGuard, binOp, Op.intArith, g]
theorem d_eqb {t t' : TypeId} {x y : Operand} {a b : Bool} [h : TyU P t .bool] (hop : o.op = .binOp .eql t x y t') (hx : opv e x = some (.bool a)) (hy : opv e y = some (.bool b)) : Det P e k o (.bool (a == b)) := by
  intro ev w hev _
  rw [hop] at hev
  simp [execOp, hop, hev x (by simp [Op.operands]) _ hx, hev y (by simp [Op.operands]) _ hy, eqGuard, run_eql_bool _ t a b h.eq]
/-! ### lengths -/
theorem d_len {t et : TypeId} {x : Operand} {a : Option Addr} {m c : Nat} [h : TyU P t (.slice et)] (hop : o.op = .call { callee := .builtin .len, args := #[x], argTypes := #[t] }) (hx : opv e x = some (.slice a m c)) : Det P e k o (.int .i64 (m : Int)) := by
  intro ev w hev _
  rw [hop] at hev
  have h1 := hev x (by simp [Op.operands, Call.operands]) _ hx
  simp [execOp, hop, resolve, invoke, builtin, h1, Builtin.len_, run_underlying h.eq, goInt]
theorem d_len_str {t : TypeId} {x : Operand} {s : ByteArray} [h : TyU P t .string] (hop : o.op = .call { callee := .builtin .len, args := #[x], argTypes := #[t] }) (hx : opv e x = some (.string s)) : Det P e k o (.int .i64 (s.size : Int)) := by
  intro ev w hev _
  rw [hop] at hev
  have h1 := hev x (by simp [Op.operands, Call.operands]) _ hx
  simp [execOp, hop, resolve, invoke, builtin, h1, Builtin.len_, run_underlying h.eq, goInt]
theorem d_len_map {t kt et : TypeId} {x : Operand} {r : Nat} {es : Array MapEntry} {cl : Nat} [h : TyU P t (.map kt et)] (hop : o.op = .call { callee := .builtin .len, args := #[x], argTypes := #[t] }) (hx : opv e x = some (.map (some r)))
    (hk : k r = some (.map es cl)) : Det P e k o (.int .i64 (es.size : Int)) := by
  intro ev w hev hs
  rw [hop] at hev
  have h1 := hev x (by simp [Op.operands, Call.operands]) _ hx
  have h2 := hs _ _ hk
  simp [execOp, hop, resolve, invoke, builtin, h1, Builtin.len_, run_underlying h.eq, goInt, run_getObj_map w r es cl h2]
theorem d_len_map_nil {t kt et : TypeId} {x : Operand} [h : TyU P t (.map kt et)] (hop : o.op = .call { callee := .builtin .len, args := #[x], argTypes := #[t] }) (hx : opv e x = some (.map none)) : Det P e k o (.int .i64 0) := by
  intro ev w hev hs
  rw [hop] at hev
  have h1 := hev x (by simp [Op.operands, Call.operands]) _ hx
  simp [execOp, hop, resolve, invoke, builtin, h1, Builtin.len_, run_underlying h.eq, goInt]

/-! ### places and loads -/
theorem d_idx {t et : TypeId} {x ix : Operand} {b off m c i sz bs : Nat} {z : Value} {kd : IntKind} [h : TyU P t (.slice et)] [hi : TyI P et sz bs z] (hop : o.op = .indexAddr t x ix) (hx : opv e x = some (.slice (some ⟨b, off, none⟩) m c))
    (hy : opv e ix = some (.int kd (i : Int))) (hlt : i < m) : Det P e k o (.pointer (some ⟨b, off + i * sz, none⟩)) := by
  intro ev w hev _
  rw [hop] at hev
  obtain ⟨inf, hi1, hi2, _⟩ := hi.eq
  have h3 : (i : Int) < (m : Int) := by omega
  simp [execOp, hop, hev x (by simp [Op.operands]) _ hx, hev ix (by simp [Op.operands]) _ hy, Instr.indexAt, asIntOf, run_underlying h.eq, h3, run_size hi1, hi2, addr_add, Nat.not_le.2 hlt, hlt]
theorem d_idx_str {t : TypeId} {x ix : Operand} {s : ByteArray} {i : Nat} {kd : IntKind} [h : TyU P t .string] (hop : o.op = .index t x ix) (hx : opv e x = some (.string s)) (hy : opv e ix = some (.int kd (i : Int))) (hlt : i < s.size) : Det P e k o (.int .u8 (s[i].toNat : Int)) := by
  intro ev w hev _
  rw [hop] at hev
  simp [execOp, hop, hev x (by simp [Op.operands]) _ hx, hev ix (by simp [Op.operands]) _ hy, Instr.index, asIntOf, run_underlying h.eq, getElem?_pos, hlt]
theorem d_faddr {t : TypeId} {f b off fo sz : Nat} {ag : Bool} {x : Operand} [h : Fld P t f fo sz ag] (hop : o.op = .fieldAddr t x f) (hx : opv e x = some (.pointer (some ⟨b, off, none⟩))) (hsz : Nat.beq sz 0 = false) : Det P e k o (.pointer (some ⟨b, off + fo, none⟩)) := by
  intro ev w hev _
  rw [hop] at hev
  obtain ⟨fs, fd, d, i, h1, h2, h3, h4, h5, _⟩ := h.eq
  have h6 : i.size ≠ 0 := by rw [h5]; intro h; rw [h] at hsz; cases hsz
  simp [execOp, hop, hev x (by simp [Op.operands]) _ hx, Instr.fieldAt, run_underlying h1, h2, Instr.sureAddr, fieldPlace, run_size h4, h6, h3, addr_add]
theorem d_field {t : TypeId} {f fo sz : Nat} {x : Operand} {cs : Array Value} {v : Value} [h : Fld P t f fo sz false] (hop : o.op = .field t x f) (hx : opv e x = some (.agg cs)) (hv : cs[fo]? = some v) : Det P e k o v := by
  intro ev w hev _
  rw [hop] at hev
  obtain ⟨fs, fd, d, i, h1, h2, h3, h4, h5, h6, h7⟩ := h.eq
  subst h3
  simp [execOp, hop, hev x (by simp [Op.operands]) _ hx, Instr.field, run_underlying h1, h2, asAgg, part, run_isAgg h6, h7, hv]
theorem d_load {t : TypeId} {d : TypeDesc} {x : Operand} {b off : Nat} {v : Value} [h : TyU P t d] (hop : o.op = .load t x) (hx : opv e x = some (.pointer (some ⟨b, off, none⟩))) (hd : aggD d = false) (hc : Cells k b off [v]) : Det P e k o v := by
  intro ev w hev hs
  rw [hop] at hev
  have h1 := hc.cell hs (i := 0) (v := v) rfl
  simp only [Nat.add_zero] at h1
  simp [execOp, hop, hev x (by simp [Op.operands]) _ hx, Instr.loadAt, Instr.sureAddr, loadVar, run_isAgg h.eq, hd, h1]
theorem d_load_agg {t : TypeId} {d : TypeDesc} {x : Operand} {b off sz bs : Nat} {z : Value} {vs : List Value} [h : TyU P t d] [hi : TyI P t sz bs z] (hop : o.op = .load t x) (hx : opv e x = some (.pointer (some ⟨b, off, none⟩))) (hd : aggD d = true)
    (hl : vs.length = sz) (hc : Cells k b off vs) : Det P e k o (.agg vs.toArray) := by
  intro ev w hev hs
  rw [hop] at hev
  obtain ⟨inf, hi1, hi2, _⟩ := hi.eq
  have h1 := run_loadCells_list (P := P) w ⟨b, off, none⟩ vs (fun j v hv => by rw [addr_add]; exact hc.cell hs hv)
  rw [hl] at h1
  simp [execOp, hop, hev x (by simp [Op.operands]) _ hx, Instr.loadAt, Instr.sureAddr, loadVar, run_isAgg h.eq, hd, run_size hi1, hi2, h1]

/-! ### parts of slices and strings -/
def ob (d : Nat) : Option Nat → Nat
  | some x => x
  | none => d
def opi (e : Env) : Option Operand → Option (Option Nat) → Prop
  | none, some none => True
  | some x, some (some i) => ∃ kd, opv e x = some (.int kd (i : Int))
  | _, _ => False
theorem run_bounds {ev : Operand → Value} {b : Bool} {lo hi : Option Operand} {l h : Option Nat} (len cap : Nat) (w : World) (hlo : opi e lo (some l)) (hhi : opi e hi (some h)) (hev : ∀ x, (some x = lo ∨ some x = hi) → ∀ u, opv e x = some u → ev x = u)
    (h1 : ob 0 l ≤ ob len h) (h2 : ob len h ≤ cap) (h3 : len ≤ cap) : (Instr.sliceBounds b len cap (lo.map ev) (hi.map ev) none).run P w = .ok (ob 0 l, ob len h, cap) w := by
  have sb : ∀ (i y : Nat) (kd : IntKind) (cd : BoundsCode) (w : World), i ≤ y → (Instr.sliceBound (.int kd (i : Int)) y cd).run P w = .ok i w := by
    intro i y kd cd w hle
    have : (i : Int) ≤ (y : Int) := by omega
    simp [Instr.sliceBound, asIntOf, this]
  cases lo with
  | none =>
    cases l with
    | some i => exact hlo.elim
    | none =>
      cases hi with
      | none =>
        cases h with
        | some i => exact hhi.elim
        | none => simp [Instr.sliceBounds, ob]
      | some y =>
        cases h with
        | none => exact hhi.elim
        | some j =>
          obtain ⟨kd, hy⟩ := hhi
          simp only [ob] at h1 h2 ⊢
          simp [Instr.sliceBounds, hev y (.inr rfl) _ hy, sb j cap kd _ _ h2]
  | some x =>
    cases l with
    | none => exact hlo.elim
    | some i =>
      obtain ⟨kd', hx⟩ := hlo
      cases hi with
      | none =>
        cases h with
        | some i => exact hhi.elim
        | none =>
          simp only [ob] at h1 h2 ⊢
          simp [Instr.sliceBounds, hev x (.inl rfl) _ hx, sb i len kd' _ _ h1]
      | some y =>
        cases h with
        | none => exact hhi.elim
        | some j =>
          obtain ⟨kd, hy⟩ := hhi
          simp only [ob] at h1 h2 ⊢
          simp [Instr.sliceBounds, hev y (.inr rfl) _ hy, hev x (.inl rfl) _ hx, sb j cap kd _ _ h2, sb i j kd' _ _ h1]
/-! ### flat structs -/
def litEq : TypeDesc → Value → Value → Option Bool
  | .int _, .int .i64 a, .int .i64 b => some (decide (a = b))
  | .int _, .int .u32 a, .int .u32 b => some (decide (a = b))
  | .bool, .bool a, .bool b => some (a == b)
  | .string, .string a, .string b => some (decide (a = b))
  | _, _, _ => none
def eqFlat : List (TypeId × TypeDesc) → List Value → List Value → Option Bool
  | [], [], [] => some true
  | d :: ds, a :: as, b :: bs => match litEq d.2 a b with
    | some r => match eqFlat ds as bs with
      | some s => some (r && s)
      | none => none
    | none => none
  | _, _, _ => none
theorem run_litEq {t : TypeId} {d : TypeDesc} (h : P.underlying t = some d) {a b : Value} {r : Bool} (hr : litEq d a b = some r) (m : Nat) (w : World) : (Op.equalIn (m + 1) t a b).run P w = .ok r w := by
  unfold litEq at hr
  split at hr
  · cases hr; rw [run_equalIn_int w m t _ _ _ _ h]; rfl
  · cases hr; rw [run_equalIn_int w m t _ _ _ _ h]; rfl
  · cases hr; exact run_equalIn_bool' w m t _ _ h
  · cases hr; rw [run_equalIn_string w m t _ _ h, beq_toList]
  · cases hr
theorem run_eqFlat (m : Nat) (w : World) (xs ys : Array Value) : ∀ (ds : List (TypeId × TypeDesc)) (fs : List Field) (j : Nat) (as bs : List Value) (r : Bool), (fs.map fun f => (f.name == "_", f.type, f.offset)) = (List.range' j ds.length).zipWith (fun i d => (false, d.1, i)) ds →
    (∀ d ∈ ds, P.underlying d.1 = some d.2 ∧ aggD d.2 = false) → (∀ i v, as[i]? = some v → xs[j + i]? = some v) → (∀ i v, bs[i]? = some v → ys[j + i]? = some v) → eqFlat ds as bs = some r →
    (Op.eqFields (m + 1) xs ys fs).run P w = .ok r w
  | [], fs, j, as, bs, r, hf, _, _, _, hr => by
    have : fs = [] := by simpa using hf
    subst this
    cases as <;> cases bs <;> simp [eqFlat] at hr
    subst hr
    rfl
  | d :: ds, fs, j, as, bs, r, hf, hd, ha, hb, hr => by
    cases fs with
    | nil => simp [List.range'_succ] at hf
    | cons f fs =>
      simp only [List.length_cons, List.range'_succ, List.zipWith_cons_cons, List.map_cons, List.cons.injEq, Prod.mk.injEq] at hf
      obtain ⟨⟨h1, h2, h3⟩, h4⟩ := hf
      cases as with
      | nil => simp [eqFlat] at hr
      | cons a as =>
        cases bs with
        | nil => simp [eqFlat] at hr
        | cons b bs =>
          simp only [eqFlat] at hr
          split at hr
          · rename_i r1 hr1
            split at hr
            · rename_i r2 hr2
              cases hr
              have hdd := hd d (by simp)
              have ha0 := ha 0 a rfl
              have hb0 := hb 0 b rfl
              simp only [Nat.add_zero] at ha0 hb0
              have hne : f.name ≠ "_" := by simpa using h1
              have ih := run_eqFlat m w xs ys ds fs (j + 1) as bs r2 h4 (fun x hx => hd x (by simp [hx])) (fun i v hv => by have := ha (i + 1) v (by simpa using hv); rwa [show j + (i + 1) = j + 1 + i by omega] at this)
                (fun i v hv => by have := hb (i + 1) v (by simpa using hv); rwa [show j + (i + 1) = j + 1 + i by omega] at this) hr2
              rw [← h2] at hdd
              simp only [Op.eqFields, hne, ne_eq, not_false_eq_true, if_true, Sem.run_bind]
              simp only [part, Sem.run_bind, run_isAgg hdd.1, hdd.2, Result.andThen_ok, Bool.false_eq_true, if_false, h3, ha0, hb0, Sem.run_pure]
              rw [run_litEq hdd.1 hr1]
              cases r1
              · simp
              · simp [ih]
            · cases hr
          · cases hr
theorem d_eq_flat {t t' : TypeId} {ds : List (TypeId × TypeDesc)} {x y : Operand} {xs ys : Array Value} {r : Bool} [h : Flat P t ds] (hop : o.op = .binOp .eql t x y t') (hx : opv e x = some (.agg xs)) (hy : opv e y = some (.agg ys))
    (hr : eqFlat ds xs.toList ys.toList = some r) : Det P e k o (.bool r) := by
  intro ev w hev _
  rw [hop] at hev
  obtain ⟨h1, h2, h3, h4, h5⟩ := h.eq
  have g := run_eqFlat (P := P) 9998 w xs ys ds (P.fieldsOf t).toList 0 xs.toList ys.toList r (by rw [h4, List.range_eq_range']) h5 (fun i v hv => by simpa using hv) (fun i v hv => by simpa using hv) hr
  simp only [execOp, hop, hev x (by simp [Op.operands]) _ hx, hev y (by simp [Op.operands]) _ hy, Sem.run_bind, run_eqGuard_agg w .eql t x y xs ys h3, Result.andThen_ok, run_eql_struct, run_equalIn_struct w 9999 t xs ys h1 h2, g, Sem.run_pure]
theorem d_ne_flat {t t' : TypeId} {ds : List (TypeId × TypeDesc)} {x y : Operand} {xs ys : Array Value} {r : Bool} [h : Flat P t ds] (hop : o.op = .binOp .neq t x y t') (hx : opv e x = some (.agg xs)) (hy : opv e y = some (.agg ys))
    (hr : eqFlat ds xs.toList ys.toList = some r) : Det P e k o (.bool !r) := by
  intro ev w hev _
  rw [hop] at hev
  obtain ⟨h1, h2, h3, h4, h5⟩ := h.eq
  have g := run_eqFlat (P := P) 9998 w xs ys ds (P.fieldsOf t).toList 0 xs.toList ys.toList r (by rw [h4, List.range_eq_range']) h5 (fun i v hv => by simpa using hv) (fun i v hv => by simpa using hv) hr
  simp only [execOp, hop, hev x (by simp [Op.operands]) _ hx, hev y (by simp [Op.operands]) _ hy, Sem.run_bind, run_eqGuard_agg w .neq t x y xs ys h3, Result.andThen_ok, run_neq_struct, run_equalIn_struct w 9999 t xs ys h1 h2, g, Sem.run_pure]
/-- A struct literal. -/
theorem d_build {t : TypeId} {places : List (Nat × Nat)} {zero : List Value} {parts : Array (Nat × Operand)} {vs : List Value} {cells : Array Value} [h : Bld P t places zero] (hop : o.op = .build t parts) (hv : opvs e (parts.toList.map (·.2)) = some vs)
    (hf : Instr.fill (places[·]?) zero.toArray ((parts.toList.map (·.1)).zip vs) = some cells) : Det P e k o (.agg cells) := by
  intro ev w hev _
  rw [hop] at hev
  obtain ⟨fs, i, z, h1, h2, h3, h4, h5⟩ := h.eq
  have g := opvs_eval (parts.toList.map (·.2)) vs (fun y hy => hev y (by simpa [Op.operands] using hy)) hv
  have g2 : (parts.map fun (i, x) => (i, ev x)).toList = (parts.toList.map (·.1)).zip vs := by
    rw [← g]
    simp only [Array.toList_map, List.map_map]
    generalize parts.toList = l
    induction l with
    | nil => rfl
    | cons a l ih => simp [ih]
  have g3 : (places.toArray[·]? : Nat → Option (Nat × Nat)) = (places[·]?) := by funext j; simp
  simp only [execOp, hop, Instr.build, zeroValue, typeInfo, Sem.run_bind, run_program, Result.andThen_ok, h2, Sem.run_pure, h3, run_underlying h1, h5 w, h4, g2, g3, hf]

/-! ### new blocks -/
theorem run_zero {t : TypeId} {sz bs : Nat} {z : Value} [h : TyI P t sz bs z] (w : World) : (zeroValue t).run P w = .ok z w := by
  obtain ⟨i, h1, _, _, h4⟩ := h.eq
  simp [zeroValue, typeInfo, h1, h4]
theorem a_alloc {t : TypeId} {sz bs : Nat} {z : Value} [h : TyI P t sz bs z] (hop : o.op = .alloc t) : Alc P e k o (fun b => .pointer (some ⟨b, 0, none⟩)) (.cells z.cells t) := by
  intro ev w hev _
  simp [execOp, hop, Instr.alloc, run_zero, newVar, newRow, run_newObj_alloc]
theorem a_box {t : TypeId} {x : Operand} {v : Value} (hop : o.op = .box t x) (hx : opv e x = some v) : Alc P e k o (fun b => .pointer (some ⟨b, 0, none⟩)) (.cells v.cells t) := by
  intro ev w hev _
  rw [hop] at hev
  simp [execOp, hop, Instr.box, hev x (by simp [Op.operands]) _ hx, newVar, newRow, run_newObj_alloc]
theorem a_makeMap {t : TypeId} (hop : o.op = .makeMap t none) : Alc P e k o (fun b => .map (some b)) (.map #[] 0) := by
  intro ev w hev _
  simp [execOp, hop, Instr.makeMap, run_newObj_alloc]
theorem a_makeSlice {t et : TypeId} {x y : Operand} {m c sz bs : Nat} {z : Value} {k1 k2 : IntKind} [ht : TyU P t (.slice et)] [h : TyI P et sz bs z] (hop : o.op = .makeSlice t x y) (hx : opv e x = some (.int k1 (m : Int))) (hy : opv e y = some (.int k2 (c : Int)))
    (hmc : m ≤ c) (hb : bs * c ≤ 281474976710656) (h63 : c ≤ 9223372036854775807) : Alc P e k o (fun b => .slice (some ⟨b, 0, none⟩) m c) (.cells (madeCells z.cells (c * sz)) et) := by
  intro ev w hev _
  rw [hop] at hev
  obtain ⟨i, h1, h2, h3, h4⟩ := h.eq
  have hb' : (i.bytes : Int) * (c : Int) ≤ 281474976710656 := by
    rw [h3]
    have : ((bs * c : Nat) : Int) ≤ 281474976710656 := by omega
    rwa [Int.natCast_mul] at this
  have g := run_make (P := P) w t et i z ht.eq h1 h4 k1 k2 m c (by omega) (by omega) hb' (by omega)
  simp only [Int.toNat_natCast, h2] at g
  simp [execOp, hop, hev x (by simp [Op.operands]) _ hx, hev y (by simp [Op.operands]) _ hy, g]
theorem a_buildSlice {t et : TypeId} {len : Nat} {parts : Array (Nat × Operand)} {vs : List Value} {cells : Array Value} {sz bs : Nat} {z : Value} [ht : TyU P t (.slice et)] [h : TyI P et sz bs z] (hop : o.op = .buildSlice t len parts)
    (hv : opvs e (parts.toList.map (·.2)) = some vs) (hle : Nat.ble (len * sz) 16777216 = true) (hpos : Nat.beq (len * sz) 0 = false)
    (hf : Instr.fill (fun i => some (i * sz, sz)) (madeCells z.cells (len * sz)) ((parts.toList.map (·.1)).zip vs) = some cells) : Alc P e k o (fun b => .slice (some ⟨b, 0, none⟩) len len) (.cells cells et) := by
  intro ev w hev _
  rw [hop] at hev
  obtain ⟨i, h1, h2, h3, h4⟩ := h.eq
  have g := opvs_eval (parts.toList.map (·.2)) vs (fun y hy => hev y (by simpa [Op.operands] using hy)) hv
  have g2 : (parts.map fun (i, x) => (i, ev x)).toList = (parts.toList.map (·.1)).zip vs := by
    rw [← g]
    simp only [Array.toList_map, List.map_map]
    generalize parts.toList = l
    induction l with
    | nil => rfl
    | cons a l ih => simp [ih]
  have n1 : ¬ 2 ^ 24 < len * sz := by have := Nat.le_of_ble_eq_true hle; omega
  have n2 : ¬ len * sz = 0 := fun h => by rw [h] at hpos; cases hpos
  subst h2
  have hf' : Instr.fill (fun i_1 => some (i_1 * i.size, i.size)) (Array.map (fun x => z.cells[x % z.cells.size]!) (Array.range (len * i.size))) ((parts.toList.map (·.1)).zip vs) = some cells := hf
  simp only [execOp, hop, Instr.buildSlice, Sem.run_bind, run_underlying ht.eq, Result.andThen_ok, run_size h1, gt_iff_lt, n1, if_false, n2, run_zero, Sem.run_pure, g2, hf', newRow, run_newObj_alloc]
end
end Go.Wm

/-
  One walk in the text's order serves a region whatever order the tape picks, if no operation turns what was there before: each operation is taken by itself ('Loc'). Conditions: the region's own order, a Bool that the kernel reckons ('okAny').
-/
namespace Go.Wm
variable [Dfr]
open Go.RowKit

/-- The walk in the text's order. -/
def WA (P : Program) (n : Nat) (ops : Array Oper) (k : PH) (K : Env → Prop) : List Oper → Env → Prop
  | [], e => K e
  | o :: r, e => ∃ p, Loc P n ops o e k p ∧ WA P n ops k K r (set e o.dst p)

theorem wa_step {P : Program} {n : Nat} {ops : Array Oper} {k : PH} {K : Env → Prop} {e : Env} {o : Oper} {r : List Oper} {p : PV} (hl : Loc P n ops o e k p) (h : WA P n ops k K r (set e o.dst p)) : WA P n ops k K (o :: r) e := ⟨p, hl, h⟩

/-! ### the order -/
def maskOf (o : Oper) (acc : List Nat) : Nat :=
  o.after.toList.foldl (fun s ed => if Region.binds .any ed then s ||| (2 ^ ed.on ||| acc.getD ed.on 0) else s) 0
def masks : List Oper → List Nat → List Nat
  | [], acc => acc
  | o :: r, acc => masks r (acc ++ [maskOf o acc])
def slots (ops : List Oper) (o : Oper) : List Nat := o.looksAt ops.toArray
def okPair (ms : List Nat) (ops : List Oper) (i j : Nat) : Bool :=
  match (ops[j]?).bind (·.dst), ops[i]? with
  | some d, some o => if (slots ops o).contains d then (if Nat.blt j i then (ms.getD i 0).testBit j else if Nat.blt i j then (ms.getD j 0).testBit i else true) else true
  | _, _ => true
def distinct : List Nat → Bool
  | [] => true
  | d :: r => !r.contains d && distinct r
def okAny (n : Nat) (ops : List Oper) : Bool :=
  let ms := masks ops []
  (ops.all fun o => match o.dst with | some d => Nat.blt d n | none => true) &&
  distinct (ops.filterMap (·.dst)) &&
  ((List.range ops.length).all fun i => (List.range ops.length).all fun j => okPair ms ops i j) &&
  (ops.zipIdx.all fun (o, i) => o.after.toList.all fun ed => !Region.binds .any ed || Nat.blt ed.on i)

theorem foldl_or_testBit (f : Edge → Nat) (b : Edge → Bool) : ∀ (l : List Edge) (s j : Nat), (l.foldl (fun s ed => if b ed then s ||| f ed else s) s).testBit j = true → s.testBit j = true ∨ ∃ ed ∈ l, b ed = true ∧ (f ed).testBit j = true
  | [], s, j, h => .inl h
  | x :: l, s, j, h => by
    rw [List.foldl_cons] at h
    rcases foldl_or_testBit f b l _ j h with h | ⟨ed, h1, h2, h3⟩
    · by_cases hb : b x = true
      · simp only [hb, if_true, Nat.testBit_or, Bool.or_eq_true] at h
        rcases h with h | h
        · exact .inl h
        · exact .inr ⟨x, by simp, hb, h⟩
      · simp only [hb] at h
        exact .inl h
    · exact .inr ⟨ed, by simp [h1], h2, h3⟩
theorem masks_prefix : ∀ (l : List Oper) (acc : List Nat) (i : Nat), i < acc.length → (masks l acc)[i]? = acc[i]?
  | [], acc, i, h => rfl
  | o :: r, acc, i, h => by
    rw [masks, masks_prefix r _ i (by simp; omega), List.getElem?_append_left h]
theorem masks_at : ∀ (l : List Oper) (acc : List Nat) (i : Nat) (o : Oper), l[i]? = some o → ∃ acc', (masks l acc)[acc.length + i]? = some (maskOf o acc') ∧ acc'.length = acc.length + i ∧ ∀ j, j < acc'.length → (masks l acc)[j]? = acc'[j]?
  | [], acc, i, o, h => by simp at h
  | x :: r, acc, 0, o, h => by
    simp only [List.getElem?_cons_zero, Option.some.injEq] at h
    subst h
    refine ⟨acc, ?_, by simp, fun j hj => ?_⟩
    · rw [masks, masks_prefix r _ _ (by simp)]
      simp
    · rw [masks, masks_prefix r _ _ (by simp; omega), List.getElem?_append_left hj]
  | x :: r, acc, i + 1, o, h => by
    obtain ⟨acc', h1, h2, h3⟩ := masks_at r (acc ++ [maskOf x acc]) i o (by simpa using h)
    refine ⟨acc', ?_, by simp at h2; omega, fun j hj => ?_⟩
    · rw [masks]
      simpa [Nat.add_assoc, Nat.add_comm 1 i] using h1
    · rw [masks]
      exact h3 j hj
/-- A bit of an operation's mask: an edge to it, or to one that has the bit. -/
theorem mask_bit {l : List Oper} {i j : Nat} {o : Oper} (ho : l[i]? = some o) (h : ((masks l []).getD i 0).testBit j = true) (hlt : ∀ ed ∈ o.after.toList, Region.binds .any ed = true → ed.on < i) :
    ∃ ed ∈ o.after.toList, Region.binds .any ed = true ∧ (ed.on = j ∨ ((masks l []).getD ed.on 0).testBit j = true) := by
  obtain ⟨acc', h1, h2, h3⟩ := masks_at l [] i o ho
  simp only [List.length_nil, Nat.zero_add] at h1 h2
  have h4 : (masks l []).getD i 0 = maskOf o acc' := by rw [List.getD_eq_getElem?_getD, h1]; rfl
  rw [h4] at h
  unfold maskOf at h
  rcases foldl_or_testBit (fun ed => 2 ^ ed.on ||| acc'.getD ed.on 0) (fun ed => Region.binds .any ed) _ _ _ h with h | ⟨ed, he, hb, h⟩
  · simp at h
  · refine ⟨ed, he, hb, ?_⟩
    simp only [Nat.testBit_or, Bool.or_eq_true] at h
    rcases h with h | h
    · left
      rw [Nat.testBit_two_pow] at h
      simpa using h
    · right
      have hlt' := hlt ed he hb
      rw [List.getD_eq_getElem?_getD, h3 ed.on (by omega), ← List.getD_eq_getElem?_getD]
      exact h

section
variable {P : Program} {n : Nat} {ops : List Oper} {k : PH}

/-- What the walk in the text's order has said of operation i: the environment ahead of it, and its own word. -/
theorem wa_at {K : Env → Prop} : ∀ (l : List Oper) (e : Env), WA P n ops.toArray k K l e → ∃ (es : Nat → Env) (ps : Nat → PV), es 0 = e ∧ (∀ i o, l[i]? = some o → Loc P n ops.toArray o (es i) k (ps i) ∧ es (i + 1) = set (es i) o.dst (ps i)) ∧ K (es l.length)
  | [], e, h => ⟨fun _ => e, fun _ => .is undef, rfl, fun i o h => by simp at h, h⟩
  | x :: r, e, ⟨p, hl, h⟩ => by
    obtain ⟨es, ps, h0, h1, h2⟩ := wa_at r _ h
    refine ⟨fun i => match i with | 0 => e | i + 1 => es i, fun i => match i with | 0 => p | i + 1 => ps i, rfl, fun i o ho => ?_, h2⟩
    cases i with
    | zero =>
      simp only [List.getElem?_cons_zero, Option.some.injEq] at ho
      subst ho
      exact ⟨hl, h0⟩
    | succ i => exact h1 i o (by simpa using ho)

theorem distinct_spec {l : List Oper} (h : distinct (l.filterMap (·.dst)) = true) {i j : Nat} {oi oj : Oper} {d : Nat} (hi : l[i]? = some oi) (hj : l[j]? = some oj) (hdi : oi.dst = some d) (hdj : oj.dst = some d) : i = j := by
  induction l generalizing i j with
  | nil => simp at hi
  | cons x r ih =>
    have mem : ∀ (j : Nat) (o : Oper), r[j]? = some o → o.dst = some d → d ∈ r.filterMap (·.dst) := fun j o ho hd => List.mem_filterMap.2 ⟨o, List.mem_of_getElem? ho, hd⟩
    have hr : distinct (r.filterMap (·.dst)) = true := by
      cases hx : x.dst with
      | none => simpa [List.filterMap_cons, hx] using h
      | some dx =>
        simp only [List.filterMap_cons, hx, distinct, Bool.and_eq_true] at h
        exact h.2
    have hn : x.dst = some d → d ∉ r.filterMap (·.dst) := fun hx => by
      simp only [List.filterMap_cons, hx, distinct, Bool.and_eq_true] at h
      have := h.1
      intro hm
      rw [List.contains_iff_mem.2 hm] at this
      cases this
    cases i with
    | zero =>
      simp only [List.getElem?_cons_zero, Option.some.injEq] at hi
      subst hi
      cases j with
      | zero => rfl
      | succ j => exact absurd (mem j oj (by simpa using hj) hdj) (hn hdi)
    | succ i =>
      cases j with
      | zero =>
        simp only [List.getElem?_cons_zero, Option.some.injEq] at hj
        subst hj
        exact absurd (mem i oi (by simpa using hi) hdi) (hn hdj)
      | succ j => exact congrArg (· + 1) (ih hr (by simpa using hi) (by simpa using hj))

/-- The environment ahead of operation i says of slot t: what the one operation ahead of i that writes t says, or what was known at first. -/
theorem es_get {es : Nat → Env} {ps : Nat → PV} (hd : distinct (ops.filterMap (·.dst)) = true) (hes : ∀ i o, ops[i]? = some o → es (i + 1) = set (es i) o.dst (ps i)) :
    ∀ (i : Nat), i ≤ ops.length → ∀ t, (∃ j o, j < i ∧ ops[j]? = some o ∧ o.dst = some t ∧ get (es i) t = some (ps j)) ∨ ((∀ j o, j < i → ops[j]? = some o → o.dst ≠ some t) ∧ get (es i) t = get (es 0) t)
  | 0, _, t => .inr ⟨fun j o h => by omega, rfl⟩
  | i + 1, hi, t => by
    have hlt : i < ops.length := by omega
    have ho : ops[i]? = some ops[i] := List.getElem?_eq_getElem hlt
    rw [hes i _ ho]
    by_cases hdt : (ops[i]).dst = some t
    · left
      refine ⟨i, _, by omega, ho, hdt, ?_⟩
      rw [hdt]
      exact get_cons_same _ _ _
    · have hg : get (set (es i) (ops[i]).dst (ps i)) t = get (es i) t := by
        cases hx : (ops[i]).dst with
        | none => rfl
        | some d => exact get_cons_other _ _ (fun h => hdt (by rw [hx, h]))
      rcases es_get hd hes i (by omega) t with ⟨j, o, h1, h2, h3, h4⟩ | ⟨h1, h2⟩
      · exact .inl ⟨j, o, by omega, h2, h3, hg.trans h4⟩
      · refine .inr ⟨fun j o hj hoj => ?_, hg.trans h2⟩
        by_cases hji : j = i
        · subst hji
          rw [ho] at hoj
          cases hoj
          exact hdt
        · exact h1 j o (by omega) hoj

theorem okAny_parts (h : okAny n ops = true) : (∀ (i : Nat) (o : Oper) (d : Nat), ops[i]? = some o → o.dst = some d → d < n) ∧ distinct (ops.filterMap (·.dst)) = true ∧ (∀ i j, i < ops.length → j < ops.length → okPair (masks ops []) ops i j = true) ∧
    (∀ (i : Nat) (o : Oper), ops[i]? = some o → ∀ ed ∈ o.after.toList, Region.binds .any ed = true → ed.on < i) := by
  simp only [okAny, Bool.and_eq_true, List.all_eq_true] at h
  obtain ⟨⟨⟨h1, h2⟩, h3⟩, h4⟩ := h
  refine ⟨fun i o d ho hd => ?_, h2, fun i j hi hj => h3 i (List.mem_range.2 hi) j (List.mem_range.2 hj), fun i o ho ed he hb => ?_⟩
  · have := h1 o (List.mem_of_getElem? ho)
    simpa [hd, Nat.blt_eq] using this
  · have := h4 (o, i) (List.mk_mem_zipIdx_iff_getElem?.2 ho)
    have := this ed he
    rw [hb] at this
    simpa [Nat.blt_eq] using this

/-- Once an operation's edges are carried out, so is all that they hang on. -/
theorem mask_done (hlt : ∀ i o, ops[i]? = some o → ∀ ed ∈ o.after.toList, Region.binds .any ed = true → ed.on < i) (L : Array Bool) (hdown : ∀ i o, ops[i]? = some o → L.getD i false = true → ∀ ed ∈ o.after.toList, Region.binds .any ed = true → L.getD ed.on false = true) :
    ∀ (m i : Nat), i < m → ∀ (o : Oper), ops[i]? = some o → (∀ ed ∈ o.after.toList, Region.binds .any ed = true → L.getD ed.on false = true) → ∀ j, ((masks ops []).getD i 0).testBit j = true → L.getD j false = true
  | 0, i, h, _, _, _, _, _ => by omega
  | m + 1, i, h, o, ho, hed, j, hb => by
    obtain ⟨ed, he, hbd, hj⟩ := mask_bit ho hb (hlt i o ho)
    rcases hj with hj | hj
    · rw [← hj]; exact hed ed he hbd
    · have hon := hlt i o ho ed he hbd
      have hi : i < ops.length := (List.getElem?_eq_some_iff.1 ho).1
      have ho' : ops[ed.on]? = some ops[ed.on] := List.getElem?_eq_getElem (by omega)
      exact mask_done hlt L hdown m ed.on (by omega) _ ho' (hdown _ _ ho' (hed ed he hbd)) j hj

/-- What holds in the middle of a region: some operations ('L') are carried out. -/
structure Mid (n : Nat) (ops : List Oper) (es0 : Env) (ps : Nat → PV) (w0 : World) (k : PH) (L : Array Bool) (a : Act) (w : World) (k' : PH) : Prop where
  size : L.size = ops.length
  tsize : a.tmps.size = n
  defers : a.defers = Dfr.ds
  below : Below w0.heap.size w0 w
  agr : Agr w0.heap.size k k'
  sub : Sub k' w
  le : Le k k'
  down : ∀ i o, ops[i]? = some o → L.getD i false = true → ∀ ed ∈ o.after.toList, Region.binds .any ed = true → L.getD ed.on false = true
  done : ∀ i o d, ops[i]? = some o → o.dst = some d → L.getD i false = true → (ps i).holds k' (a.tmps.getD d undef)
  rest : ∀ t, (∀ i o, ops[i]? = some o → o.dst = some t → L.getD i false = false) → ∀ q, get es0 t = some q → q.holds k' (a.tmps.getD t undef)

theorem region_any {F : Fr} {Q : Exit → Act → World → Prop} {e : Env} {id : Nat} (hm : P.follows .mixedOrders = true) (hok : okAny n ops = true) (hmono : ∀ t q, get e t = some q → q.Mono)
    (h : WA P n ops.toArray k (fun e' => ∀ k', Le k k' → EG F n (Q .normal) e' k') ops e) : CG P F n Q (.region id ops.toArray true) e k := by
  intro a w ha hs
  obtain ⟨es, ps, h0, h1, hK⟩ := wa_at ops e h
  obtain ⟨g1, g2, g3, g4⟩ := okAny_parts hok
  have hes := es_get g2 (fun i o ho => (h1 i o ho).2)
  refine wp_region_any hm ?_
  have hb0 : Below w.heap.size w { w with drawn := w.drawn + 1 } := below_drawn w _
  have start : Mid n ops e ps w k (Array.replicate ops.toArray.size false) a { w with drawn := w.drawn + 1 } k := by
    refine ⟨by simp, ha.size, ha.defers, hb0, Agr.refl _ _, hs.sub.below hb0, Le.refl _, fun i o ho hl => ?_, fun i o d ho hd hl => ?_, fun t _ q hq => ha.get t q hq⟩
    · simp [Array.getD_eq_getD_getElem?, Array.getElem?_replicate] at hl
      split at hl <;> simp_all
    · simp [Array.getD_eq_getD_getElem?, Array.getElem?_replicate] at hl
      split at hl <;> simp_all
  have fin : ∀ L a' w' k', Mid n ops e ps w k L a' w' k' → Region.ready .any ops.toArray L = [] → Q .normal a' w' := by
    intro L a' w' k' hmid hr
    have all : ∀ m i, i < m → i < ops.length → L.getD i false = true := by
      intro m
      induction m with
      | zero => intro i h; omega
      | succ m ih =>
        intro i him hi
        cases hL : L.getD i false with
        | true => rfl
        | false =>
          have ho : ops[i]? = some ops[i] := List.getElem?_eq_getElem hi
          have hLi : L.getD i true = false := by
            rw [Array.getD_eq_getD_getElem?] at hL ⊢
            have : i < L.size := by rw [hmid.size]; exact hi
            rw [Array.getElem?_eq_getElem this] at hL ⊢
            exact hL
          have : i ∈ Region.ready .any ops.toArray L := by
            unfold Region.ready
            refine List.mem_filter.2 ⟨by simpa using hi, ?_⟩
            simp only [hLi, List.getElem?_toArray, ho, Option.map_some, Option.getD_some, Bool.not_false, Bool.true_and]
            rw [← Array.all_toList, List.all_eq_true]
            intro ed he
            by_cases hb : Region.binds .any ed = true
            · have hon := g4 i _ ho ed he hb
              rw [ih ed.on (by omega) (by omega)]
              simp
            · simp [hb]
          rw [hr] at this
          cases this
    refine hK k' hmid.le a' w' ⟨hmid.tsize, hmid.defers, fun t q hq => ?_⟩ (hs.step hmid.below hmid.agr hmid.sub)
    rcases hes ops.length (Nat.le_refl _) t with ⟨j, o, hj, ho, hd, hg⟩ | ⟨hno, hg⟩
    · rw [hg] at hq
      cases hq
      exact hmid.done j o t ho hd (all _ j (Nat.lt_succ_self j) hj)
    · rw [hg, h0] at hq
      exact hmid.rest t (fun i o ho hd => absurd hd (hno i o ((List.getElem?_eq_some_iff.1 ho).1) ho)) q hq
  have key : ∀ (fuel : Nat) (L : Array Bool) (a' : Act) (w' : World) (k' : PH), Mid n ops e ps w k L a' w' k' → (L.toList.count false ≤ fuel) → wpAny P .any ops.toArray Q fuel L a' w' := by
    intro fuel
    induction fuel with
    | zero =>
      intro L a' w' k' hmid hc
      have hr : Region.ready .any ops.toArray L = [] := by
        unfold Region.ready
        rw [List.filter_eq_nil_iff]
        intro i hi
        have hi' : i < ops.length := by simpa using hi
        have hsz : i < L.size := by rw [hmid.size]; exact hi'
        have : L[i] ≠ false := by
          intro hf
          have : (false : Bool) ∈ L.toList := by rw [← hf]; exact Array.mem_toList_iff.2 (Array.getElem_mem hsz)
          have := List.count_pos_iff.2 this
          omega
        have h2 : L.getD i true = true := by
          rw [Array.getD_eq_getD_getElem?, Array.getElem?_eq_getElem hsz]
          simpa using this
        simp [h2]
      exact ⟨hr, fin _ _ _ _ hmid hr⟩
    | succ fuel ih =>
      intro L a' w' k' hmid hc
      refine ⟨fun hr => fin _ _ _ _ hmid hr, fun i hi => ?_⟩
      unfold Region.ready at hi
      obtain ⟨hi1, hi2⟩ := List.mem_filter.1 hi
      have hil : i < ops.length := by simpa using hi1
      have ho : ops[i]? = some ops[i] := List.getElem?_eq_getElem hil
      have hsz : i < L.size := by rw [hmid.size]; exact hil
      simp only [List.getElem?_toArray, ho, Option.map_some, Option.getD_some, Bool.and_eq_true, Bool.not_eq_true'] at hi2
      obtain ⟨hLi, hed⟩ := hi2
      rw [← Array.all_toList, List.all_eq_true] at hed
      have hed' : ∀ ed ∈ (ops[i]).after.toList, Region.binds .any ed = true → L.getD ed.on false = true := fun ed he hb => by
        have := hed ed he
        rw [hb] at this
        simpa using this
      have hLf : L.getD i false = false := by
        rw [Array.getD_eq_getD_getElem?, Array.getElem?_eq_getElem hsz] at hLi ⊢
        exact hLi
      have hset : ∀ j, (L.setIfInBounds i true).getD j false = if j = i then true else L.getD j false := by
        intro j
        rw [Array.getD_eq_getD_getElem?, Array.getD_eq_getD_getElem?, Array.getElem?_setIfInBounds]
        by_cases hji : i = j
        · subst hji; simp [hsz]
        · simp [hji, Ne.symm hji]
      have looks : ∀ t ∈ (ops[i]).looksAt ops.toArray, ∀ q, get (es i) t = some q → q.holds k' (a'.tmps.getD t undef) := by
        intro t ht q hq
        rcases hes i (by omega) t with ⟨j, o, hj, hoj, hd, hg⟩ | ⟨hno, hg⟩
        · rw [hg] at hq
          cases hq
          refine hmid.done j o t hoj hd ?_
          have hp := g3 i j hil (by omega)
          unfold okPair at hp
          simp only [hoj, ho, Option.bind_some, hd] at hp
          have hc1 : (slots ops ops[i]).contains t = true := List.contains_iff_mem.2 ht
          have hji : Nat.blt j i = true := by simpa [Nat.blt_eq] using hj
          simp only [hc1, if_true, hji] at hp
          exact mask_done g4 L hmid.down (i + 1) i (Nat.lt_succ_self i) _ ho hed' j hp
        · rw [hg, h0] at hq
          refine hmid.rest t (fun j o hoj hd => ?_) q hq
          cases hLj : L.getD j false with
          | false => rfl
          | true =>
            exfalso
            have hjl : j < ops.length := (List.getElem?_eq_some_iff.1 hoj).1
            have hji : ¬ j < i := fun hlt => hno j o hlt hoj hd
            have hne : j ≠ i := by rintro rfl; rw [hLf] at hLj; cases hLj
            have hp := g3 i j hil hjl
            unfold okPair at hp
            simp only [hoj, ho, Option.bind_some, hd] at hp
            have hc1 : (slots ops ops[i]).contains t = true := List.contains_iff_mem.2 ht
            have b1 : Nat.blt j i = false := by cases e : Nat.blt j i with | false => rfl | true => exact absurd (by simpa [Nat.blt_eq] using e) hji
            have b2 : Nat.blt i j = true := by rw [Nat.blt_eq]; omega
            simp only [hc1, if_true, b1, b2, Bool.false_eq_true, if_false] at hp
            have := mask_done g4 L hmid.down (j + 1) j (Nat.lt_succ_self j) _ hoj (hmid.down j o hoj hLj) i hp
            rw [hLf] at this
            cases this
      have hloc := (h1 i _ ho).1
      have hcount : (L.setIfInBounds i true).toList.count false ≤ fuel := by
        have h3 : (L.setIfInBounds i true).toList = L.toList.set i true := by simp
        rw [h3]
        have h4 : L.toList[i]? = some false := by
          rw [Array.getD_eq_getD_getElem?, Array.getElem?_eq_getElem hsz] at hLf
          simp [hsz]
          simpa using hLf
        have h5 : i < L.toList.length := by simpa using hsz
        have h6 := List.count_set (a := true) (b := false) (l := L.toList) (i := i) (h := h5)
        rw [h6]
        have h7 : L.toList[i] = false := by
          rw [List.getElem?_eq_getElem h5] at h4
          exact Option.some.inj h4
        rw [h7]
        simp
        have : 0 < L.toList.count false := List.count_pos_iff.2 (List.mem_of_getElem? h4)
        simp at hc
        omega
      have step : ∀ v w'' k'', Below w'.heap.size w' w'' → Agr w'.heap.size k' k'' → Sub k'' w'' → (ps i).holds k'' v → Mid n ops e ps w k (L.setIfInBounds i true) (a'.put (ops[i]).dst v) w'' k'' := by
        intro v w'' k'' hb hag hsub hp
        have hle : Le k' k'' := hag.le hmid.sub
        refine ⟨by simp [hmid.size], (put_size _ _ _).trans hmid.tsize, (put_defers _ _ _).trans hmid.defers, hmid.below.trans (hb.mono hmid.below.size), fun b hbl => (hag b (Nat.lt_of_lt_of_le hbl hmid.below.size)).trans (hmid.agr b hbl), hsub, hmid.le.trans hle, ?_, ?_, ?_⟩
        · intro j o hoj hLj ed he hbd
          rw [hset] at hLj ⊢
          split
          · rfl
          · by_cases hji : j = i
            · subst hji
              rw [ho] at hoj
              cases hoj
              exact hed' ed he hbd
            · rw [if_neg hji] at hLj
              exact hmid.down j o hoj hLj ed he hbd
        · intro j o d hoj hd hLj
          rw [hset] at hLj
          by_cases hji : j = i
          · subst hji
            rw [ho] at hoj
            cases hoj
            rw [hd, put_getD_same (by rw [hmid.tsize]; exact g1 j _ d ho hd)]
            exact hp
          · rw [if_neg hji] at hLj
            have hdd : ∀ d', (ops[i]).dst = some d' → d' ≠ d := fun d' hd' hdd => hji (distinct_spec g2 hoj ho hd (hdd ▸ hd'))
            have hpm := (h1 j o hoj).1.1
            have := PV.holds_mono hpm hle (hmid.done j o d hoj hd hLj)
            cases hx : (ops[i]).dst with
            | none => exact this
            | some d' => rw [put_getD_other (hdd d' hx)]; exact this
        · intro t hno q hq
          have hm2 := hmono t q hq
          have hnt : (ops[i]).dst ≠ some t := fun hd => by
            have := hno i _ ho hd
            rw [hset, if_pos rfl] at this
            cases this
          have := PV.holds_mono hm2 hle (hmid.rest t (fun j o hoj hd => by
            have := hno j o hoj hd
            rw [hset] at this
            split at this
            · cases this
            · exact this) q hq)
          cases hx : (ops[i]).dst with
          | none => exact this
          | some d' => rw [put_getD_other (fun h => hnt (by rw [hx, h]))]; exact this
      have hex := hloc.2 a' w' k' hmid.le hmid.sub hmid.tsize looks
      unfold wpOp
      simp only [List.getElem?_toArray, ho]
      split
      · rename_i hw
        rw [if_pos hw] at hex
        exact .inl (hex _ _ fun v w'' ⟨k'', hb, hag, hsub, hp⟩ => ih _ _ _ _ (step v w'' k'' hb hag hsub hp) hcount)
      · rename_i hw
        rw [if_neg hw] at hex
        exact ih _ _ _ _ (step undef w' k' (Below.refl _ _) (Agr.refl _ _) hmid.sub hex) hcount
  refine key _ _ _ _ _ start ?_
  simp [List.count_replicate]

theorem WA.mono {K K' : Env → Prop} (hm : ∀ e, K e → K' e) {ops' : Array Oper} : ∀ (l : List Oper) (e : Env), WA P n ops' k K l e → WA P n ops' k K' l e
  | [], e, h => hm e h
  | o :: r, e, ⟨p, hl, h⟩ => ⟨p, hl, WA.mono hm r _ h⟩
end
end Go.Wm

/-
  Literals of structs and slices: their cells as lists that Lean reckons by itself. Conditions: none.
-/
namespace Go.Wm
variable [Dfr]
open Go.RowKit

def splice (cs : List Value) (off : Nat) (vs : List Value) : List Value := cs.take off ++ vs ++ cs.drop (off + vs.length)
def fillS (place : Nat → Option (Nat × Nat)) : List Value → List (Nat × Value) → Option (List Value)
  | cs, [] => some cs
  | cs, (i, v) :: r => match place i with
    | none => none
    | some (off, size) => match Nat.beq v.cells.size size, Nat.ble (off + size) cs.length with
      | true, true => fillS place (splice cs off v.cells.toList) r
      | _, _ => none

theorem splice_set {α : Type} (l : List α) (i : Nat) (v : α) (r : List α) (h : i + 1 + r.length ≤ l.length) :
    (l.set i v).take (i + 1) ++ r ++ (l.set i v).drop (i + 1 + r.length) = l.take i ++ (v :: r) ++ l.drop (i + (r.length + 1)) := by
  have h1 : (l.set i v).take (i + 1) = l.take i ++ [v] := by
    rw [List.take_succ_eq_append_getElem (by simp; omega)]
    simp [List.take_set_of_le]
  have h2 : (l.set i v).drop (i + 1 + r.length) = l.drop (i + (r.length + 1)) := by
    rw [List.drop_set_of_lt (by omega)]
    congr 1
    omega
  rw [h1, h2]
  simp
theorem foldl_set (off : Nat) : ∀ (vs : List Value) (j : Nat) (cs : List Value), off + j + vs.length ≤ cs.length →
    (vs.zipIdx j).foldl (fun (a : Array Value) (p : Value × Nat) => a.setIfInBounds (off + p.2) p.1) cs.toArray = (cs.take (off + j) ++ vs ++ cs.drop (off + j + vs.length)).toArray
  | [], j, cs, h => by simp
  | v :: r, j, cs, h => by
    simp only [List.zipIdx_cons, List.foldl_cons, List.setIfInBounds_toArray]
    simp only [List.length_cons] at h
    rw [foldl_set off r (j + 1) _ (by simp; omega)]
    have := splice_set cs (off + j) v r (by omega)
    rw [show off + (j + 1) = off + j + 1 by omega, this]
    rfl
theorem fill_of (place : Nat → Option (Nat × Nat)) : ∀ (parts : List (Nat × Value)) (cs cs' : List Value), fillS place cs parts = some cs' → Instr.fill place cs.toArray parts = some cs'.toArray
  | [], cs, cs', h => by simp only [fillS, Option.some.injEq] at h; subst h; rfl
  | (i, v) :: r, cs, cs', h => by
    simp only [fillS] at h
    simp only [Instr.fill]
    split at h
    · cases h
    · rename_i off size hp
      split at h
      · rename_i h1 h2
        have e1 : v.cells.size = size := Nat.eq_of_beq_eq_true h1
        have e2 : off + size ≤ cs.length := Nat.le_of_ble_eq_true h2
        have ih := fill_of place r _ _ h
        have hn : ¬ (v.cells.size ≠ size ∨ off + v.cells.size > cs.toArray.size) := by simp; omega
        simp only [hp]
        rw [if_neg (by simpa using hn)]
        rw [← ih]
        congr 1
        have hf := foldl_set off v.cells.toList 0 cs (by simp; omega)
        unfold splice
        simp only [Nat.add_zero] at hf
        rw [← hf, ← Array.foldl_toList, Array.toList_zipIdx]
      · cases h

section
variable {P : Program} {n : Nat} {ops : Array Oper} {o : Oper} {e : Env} {k : PH}
theorem d_lit {t : TypeId} {places : List (Nat × Nat)} {zero : List Value} {parts : Array (Nat × Operand)} {vs cells : List Value} [h : Bld P t places zero] (hop : o.op = .build t parts) (hv : opvs e (parts.toList.map (·.2)) = some vs)
    (hf : fillS (places[·]?) zero ((parts.toList.map (·.1)).zip vs) = some cells) : Det P e k o (.agg cells.toArray) :=
  d_build hop hv (fill_of _ _ _ _ hf)
theorem a_slice {t et : TypeId} {len : Nat} {parts : Array (Nat × Operand)} {vs cells : List Value} {sz bs : Nat} {z : Value} [ht : TyU P t (.slice et)] [h : TyI P et sz bs z] (hop : o.op = .buildSlice t len parts)
    (hv : opvs e (parts.toList.map (·.2)) = some vs) (hle : Nat.ble (len * sz) 16777216 = true) (hpos : Nat.beq (len * sz) 0 = false) (hz : (madeCells z.cells (len * sz)).toList = (List.replicate len z.cells.toList).flatten)
    (hf : fillS (fun i => some (i * sz, sz)) (List.replicate len z.cells.toList).flatten ((parts.toList.map (·.1)).zip vs) = some cells) : Alc P e k o (fun b => .slice (some ⟨b, 0, none⟩) len len) (.cells cells.toArray et) := by
  refine a_buildSlice hop hv hle hpos ?_
  have := fill_of _ _ _ _ hf
  rw [← hz] at this
  simpa using this
end
end Go.Wm

/-
  The walk's own words for this seat's calculus: steps inside regions, effects on rows of the call's own, readings of slices. Conditions: none beyond those of each law.
-/
namespace Go.Wm
variable [Dfr]
open Go.RowKit

class Mixed (P : Program) : Prop where
  eq : P.follows .mixedOrders = true

section
variable {P : Program} {F : Fr} {n : Nat} {ops : Array Oper} {Q : Exit → Act → World → Prop} {rest : List Oper} {o : Oper} {e : Env} {k : PH}

/-! ### steps -/
theorem rs {v : Value} {d : Nat} (hd : o.dst = some d) (hf : Nat.blt d n = true) (hl : Loc P n ops o e k (.is v)) (h : RG P F n ops Q rest ((d, .is v) :: e) k) : RG P F n ops Q (o :: rest) e k :=
  rg_det (by rw [hd]; exact hf) hl (by rw [hd]; exact h)
theorem rv {φ : PH → Value → Prop} {d : Nat} (hd : o.dst = some d) (hf : Nat.blt d n = true) (hdet : det e = true) (hl : Loc P n ops o e k (.such φ)) (h : ∀ k', Le k k' → ∀ v, φ k' v → RG P F n ops Q rest ((d, .is v) :: e) k') : RG P F n ops Q (o :: rest) e k :=
  rg_such hdet (by rw [hd]; exact hf) hl (by rw [hd]; exact h)
/-- A new block: its number is one that nothing knew. -/
theorem ra {vf : Nat → Value} {obj : Obj} {d : Nat} (hd : o.dst = some d) (hf : Nat.blt d n = true) (hdet : det e = true) (hg : o.guard = none) (hl : Alc P e k o vf obj)
    (h : ∀ b, k b = none → F.w0.heap.size ≤ b → RG P F n ops Q rest ((d, .is (vf b)) :: e) (upd k b obj)) : RG P F n ops Q (o :: rest) e k := by
  intro a w ha hs
  unfold wpList
  rw [if_pos (by simp [Region.wanted, hg])]
  refine .inl (ex_value (hl a.eval w (evs_of (ops := ops) (ag_looks ha)) hs.sub) _ _ ?_)
  rintro v w' ⟨rfl, rfl⟩
  have hsz := hs.size
  refine h w.heap.size (hs.sub.none (Nat.le_refl _)) hsz _ _ ?_ (hs.step (below_alloc _ _) (agr_upd (Nat.le_refl _) _) (sub_alloc hs.sub _))
  rw [hd]
  exact (ha.heap (k' := upd k w.heap.size obj) hdet).put (d := some d) hf rfl
theorem ws {v : Value} {K : Env → Prop} {d : Nat} (hd : o.dst = some d) (hl : Loc P n ops o e k (.is v)) (h : WA P n ops k K rest ((d, .is v) :: e)) : WA P n ops k K (o :: rest) e :=
  wa_step hl (by rw [hd]; exact h)
theorem wv {φ : PH → Value → Prop} {K : Env → Prop} {d : Nat} (hd : o.dst = some d) (hl : Loc P n ops o e k (.such φ)) (h : WA P n ops k K rest ((d, .such φ) :: e)) : WA P n ops k K (o :: rest) e :=
  wa_step hl (by rw [hd]; exact h)

theorem St.weak {k' : PH} {w : World} (h : St F k' w) (hl : Le k k') (hk : ∀ b, b < F.w0.heap.size → ¬ F.mu b → k b = F.k0 b) : St F k w :=
  ⟨h.os, h.tape, h.output, h.size, h.old, h.sub.mono hl, hk⟩
theorem WA.mono' {K K' : Env → Prop} (hm : ∀ e, K e → K' e) : ∀ (l : List Oper) (e : Env), WA P n ops k K l e → WA P n ops k K' l e
  | [], e, h => hm e h
  | o :: r, e, ⟨p, hl, h⟩ => ⟨p, hl, WA.mono' hm r _ h⟩
/-- A region that draws its order, all of whose values are known outright. -/
theorem cg_any {id : Nat} {l : List Oper} [hm : Mixed P] (hok : okAny n l = true) (hdet : det e = true) (h : WA P n l.toArray k (fun e' => det e' = true ∧ EG F n (Q .normal) e' k) l e) : CG P F n Q (.region id l.toArray true) e k := by
  intro a w ha hs
  refine region_any (F := F) hm.eq hok (fun t q hg => by obtain ⟨v, rfl⟩ := det_get hdet hg; trivial) (WA.mono' (fun e' ⟨hd, hE⟩ => ?_) l e h) a w ha hs
  intro k' hle a' w' ha' hs'
  exact hE a' w' (ha'.heap hd) (hs'.weak hle hs.keep)
theorem wn (hd : det e = true) (h : EG F n (Q .normal) e k) : WA P n ops k (fun e' => det e' = true ∧ EG F n (Q .normal) e' k) [] e := ⟨hd, h⟩
/-! ### stores -/
theorem heap_setCell_at {w : World} {b off : Nat} {c : Array Value} {et : TypeId} {fr : Nat × Nat} {v : Value} (h : w.heap[b]? = some (.cells c et fr)) : (w.setCell ⟨b, off, none⟩ v).heap[b]? = some (.cells (c.setIfInBounds off v) et fr) := by
  simp [World.setCell, Array.getElem?_modify, h]
theorem St.turn {k : PH} {w w' : World} {b : Nat} {obj : Obj} (h : St F k w) (hown : F.w0.heap.size ≤ b ∨ F.mu b) (hos : w'.os = w.os) (ht : w'.tape = w.tape) (hout : w'.output = w.output) (hsz : w.heap.size ≤ w'.heap.size) (hb : w'.heap[b]? = some obj)
    (hne : ∀ i, i ≠ b → i < w.heap.size → w'.heap[i]? = w.heap[i]?) : St F (upd k b obj) w' := by
  refine ⟨hos.trans h.os, ht.trans h.tape, hout.trans h.output, Nat.le_trans h.size hsz, fun i hi hm => ?_, fun i o ho => ?_, fun i hi hm => ?_⟩
  · have : i ≠ b := by rintro rfl; rcases hown with h1 | h1; omega; exact hm h1
    rw [hne i this (Nat.lt_of_lt_of_le hi h.size)]
    exact h.old i hi hm
  · by_cases hib : i = b
    · subst hib
      rw [upd_same] at ho
      cases ho
      exact hb
    · rw [upd_other hib] at ho
      rw [hne i hib (h.sub.lt ho)]
      exact h.sub i o ho
  · have : i ≠ b := by rintro rfl; rcases hown with h1 | h1; omega; exact hm h1
    rw [upd_other this]
    exact h.keep i hi hm
/-- A store of one cell into a block of the call's own. -/
theorem rst {t : TypeId} {x y : Operand} {b off sz bs : Nat} {z : Value} {v : Value} {c : Array Value} {et : TypeId} (hd : o.dst = none) (hdet : det e = true) (hg : o.guard = none) [hi : TyI P t sz bs z] (hop : o.op = .store t x y) (hx : opv e x = some (.pointer (some ⟨b, off, none⟩))) (hy : opv e y = some v)
    (h1 : v.oneCell' = true) (hsz : Nat.beq sz 1 = true) (hk : k b = some (.cells c et (0, 0))) (hlt : off < c.size) (hown : F.w0.heap.size ≤ b ∨ F.mu b)
    (h : RG P F n ops Q rest e (upd k b (.cells (c.setIfInBounds off v) et (0, 0)))) : RG P F n ops Q (o :: rest) e k := by
  intro a w ha hs
  unfold wpList
  rw [if_pos (by simp [Region.wanted, hg])]
  have ev := evs_of (ops := ops) (o := o) (ag_looks ha)
  rw [hop] at ev
  have e1 := ev x (by simp [Op.operands]) _ hx
  have e2 := ev y (by simp [Op.operands]) _ hy
  have hb := hs.sub _ _ hk
  obtain ⟨inf, hi1, hi2, _⟩ := hi.eq
  have hsz1 : sz = 1 := Nat.eq_of_beq_eq_true hsz
  have hcs : v.cells = #[v] := by cases v <;> first | rfl | simp [Value.oneCell'] at h1
  have hc : w.cell? ⟨b, off, none⟩ = some c[off] := by
    simp only [World.cell?, hb, Option.isSome_none, Bool.false_eq_true, if_false]
    exact Array.getElem?_eq_getElem hlt
  have hfz : w.frozen? ⟨b, off, none⟩ = false := by simp [World.frozen?, hb]
  have hrun : (execOp a.eval o).run P w = .ok .skip (w.setCell ⟨b, off, none⟩ v) := by
    simp [execOp, hop, e1, e2, Instr.storeAt, Instr.sureAddr, storeVar, hcs, run_size hi1, hi2, hsz1, storeCells, addr_add, run_store P w _ v _ h1, hc, hfz]
  refine .inl (ex_skip hrun _ _ ?_)
  rintro u w' ⟨rfl, rfl⟩
  rw [hd]
  exact h _ _ (ha.heap hdet) (hs.turn hown rfl rfl rfl (by simp [World.setCell]) (heap_setCell_at hb) fun i hi _ => Below.heap_setCell _ _ _ _ hi)
/-- A store of a struct into a block of the call's own. -/
theorem rst_agg {t : TypeId} {x y : Operand} {b off sz bs : Nat} {z : Value} {vs : List Value} {c : Array Value} {et : TypeId} (hd : o.dst = none) (hdet : det e = true) (hg : o.guard = none) [hi : TyI P t sz bs z] (hop : o.op = .store t x y) (hx : opv e x = some (.pointer (some ⟨b, off, none⟩))) (hy : opv e y = some (.agg vs.toArray))
    (h1 : ∀ u ∈ vs, u.oneCell' = true) (hsz : vs.length = sz) (hk : k b = some (.cells c et (0, 0))) (hlt : off + vs.length ≤ c.size) (hown : F.w0.heap.size ≤ b ∨ F.mu b)
    (h : RG P F n ops Q rest e (upd k b (.cells (c.toList.take off ++ vs ++ c.toList.drop (off + vs.length)).toArray et (0, 0)))) : RG P F n ops Q (o :: rest) e k := by
  intro a w ha hs
  unfold wpList
  rw [if_pos (by simp [Region.wanted, hg])]
  have ev := evs_of (ops := ops) (o := o) (ag_looks ha)
  rw [hop] at ev
  have e1 := ev x (by simp [Op.operands]) _ hx
  have e2 := ev y (by simp [Op.operands]) _ hy
  have hb := hs.sub _ _ hk
  obtain ⟨inf, hi1, hi2, _⟩ := hi.eq
  have hst := run_storeCells_at P b off et vs 0 c w hb (by simpa using hlt) h1
  simp only [Nat.add_zero] at hst
  have hrun : (execOp a.eval o).run P w = .ok .skip (w.setRow b (c.toList.take off ++ vs ++ c.toList.drop (off + vs.length)).toArray) := by
    simp [execOp, hop, e1, e2, Instr.storeAt, Instr.sureAddr, storeVar, Value.cells, run_size hi1, hi2, hsz, hst]
  refine .inl (ex_skip hrun _ _ ?_)
  rintro u w' ⟨rfl, rfl⟩
  rw [hd]
  exact h _ _ (ha.heap hdet) (hs.turn hown rfl rfl rfl (by simp [World.setRow]) (setRow_heap w b c _ et _ hb) fun i hi _ => setRow_other w b i _ hi)

/-! ### rows of the call's own, which grow -/
/-- v is a slice of n elements of type et (sz cells each) that owns the cells xs: nil, or from the head of a block from N on. -/
def Row (N : Nat) (k : PH) (et sz : Nat) (v : Value) (m : Nat) (xs : List Value) : Prop :=
  xs.length = m * sz ∧ ((v = .slice none 0 0 ∧ m = 0) ∨ ∃ g cap cur, v = .slice (some ⟨g, 0, none⟩) m cap ∧ N ≤ g ∧ k g = some (.cells cur et (0, 0)) ∧ m ≤ cap ∧ cap ≤ maxLen ∧ cur.size = cap * sz ∧ cur.toList.take (m * sz) = xs)
/-- h knows nothing of v's own block. -/
def Apart (h : PH) (v : Value) : Prop := ∀ g, v.ownBlock = some g → h g = none
def Turn (k k' : PH) (v v' : Value) : Prop := ∀ h, Le h k → Apart h v → Le h k' ∧ Apart h v'
theorem row_nil (N : Nat) (k : PH) (et sz : Nat) : Row N k et sz (.slice none 0 0) 0 [] := ⟨by simp, .inl ⟨rfl, rfl⟩⟩
theorem apart_nil (h : PH) (m c : Nat) : Apart h (.slice none m c) := fun g hg => by simp [Value.ownBlock] at hg
theorem Row.le {N : Nat} {k k' : PH} {et sz : Nat} {v : Value} {m : Nat} {xs : List Value} (h : Row N k et sz v m xs) (hl : Le k k') : Row N k' et sz v m xs := by
  obtain ⟨h1, h2⟩ := h
  refine ⟨h1, ?_⟩
  rcases h2 with h2 | ⟨g, cap, cur, e1, e2, e3, r⟩
  · exact .inl h2
  · exact .inr ⟨g, cap, cur, e1, e2, hl _ _ e3, r⟩
theorem grownCap_bd (w : World) (need old : Nat) (et : TypeId) (h : need ≤ maxLen) : need ≤ grownCap w need old et ∧ grownCap w need old et ≤ maxLen := by
  unfold maxLen at *
  unfold grownCap Question.cut
  simp only
  have : 0 < 2 ^ 63 - need := by omega
  have h2 := Nat.mod_lt (w.tape w.drawn (.appendCap need old et)) this
  omega
/-- append of m elements, whose cells are known, to a row of the call's own. -/
theorem rap {t et : TypeId} {sz bs : Nat} {z : Value} {d : Nat} {x y : Operand} {v : Value} {m c j : Nat} {bx ox : Nat} {xs news : List Value} (hd : o.dst = some d) (hf : Nat.blt d n = true) (hdet : det e = true) (hg : o.guard = none) [ht : TyU P t (.slice et)] [hi : TyI P et sz bs z]
    (hop : o.op = .call { callee := .builtin .append, args := #[x, y], argTypes := #[t, t] }) (hx : opv e x = some v) (hy : opv e y = some (.slice (some ⟨bx, ox, none⟩) j c))
    (hrow : Row F.w0.heap.size k et sz v m xs) (hnews : Cells k bx ox news) (hl : news.length = j * sz) (h1 : ∀ u ∈ news, u.oneCell' = true) (hz : Nat.beq z.cells.size sz = true) (hpos : Nat.blt 0 sz = true) (hm : m + j ≤ maxLen) (hby : (m + j) * bs ≤ 140737488355328)
    (h : ∀ v' k', Row F.w0.heap.size k' et sz v' (m + j) (xs ++ news) → Turn k k' v v' → RG P F n ops Q rest ((d, .is v') :: e) k') : RG P F n ops Q (o :: rest) e k := by
  intro a w ha hs
  unfold wpList
  rw [if_pos (by simp [Region.wanted, hg])]
  have ev := evs_of (ops := ops) (o := o) (ag_looks ha)
  rw [hop] at ev
  have e1 := ev x (by simp [Op.operands, Call.operands]) _ hx
  have e2 := ev y (by simp [Op.operands, Call.operands]) _ hy
  obtain ⟨i, hi1, hi2, hi3, hi4⟩ := hi.eq
  subst hi2
  subst hi3
  have hzs : z.cells.size = i.size := Nat.eq_of_beq_eq_true hz
  have hpos' : 0 < i.size := by simpa [Nat.blt_eq] using hpos
  have hnews' : ∀ q u, news[q]? = some u → w.cell? ((⟨bx, ox, none⟩ : Addr).add q) = some u := fun q u hq => by rw [addr_add]; exact hnews.cell hs.sub hq
  have hexec : ∀ v' w', (Builtin.append_ #[t, t] o.type #[v, .slice (some ⟨bx, ox, none⟩) j c]).run P w = .ok v' w' → (execOp a.eval o).run P w = .ok (.value v') w' := by
    intro v' w' hr
    simp [execOp, hop, resolve, invoke, builtin, e1, e2, hr]
  have put : ∀ v' k', Ag n ((d, .is v') :: e) k' (a.put (some d) v') := fun v' k' => (ha.heap (k' := k') hdet).put (d := some d) hf rfl
  obtain ⟨hxl, hcase⟩ := hrow
  have h63 : maxLen = 9223372036854775807 := rfl
  have hlen : (xs ++ news).length = (m + j) * i.size := by rw [List.length_append, hxl, hl, Nat.add_mul]
  rcases hcase with ⟨rfl, rfl⟩ | ⟨g, cap, cur, rfl, hgN, hgk, hmc, hcm, hcs, htake⟩
  · have hxs : xs = [] := by simpa using hxl
    subst hxs
    by_cases hj : j = 0
    · subst hj
      have hn0 : news = [] := by simpa using hl
      subst hn0
      have hr : (Builtin.append_ #[t, t] o.type #[.slice none 0 0, .slice (some ⟨bx, ox, none⟩) 0 c]).run P w = .ok (.slice none 0 0) w := by
        have := run_firstCells_some (P := P) w i.size 0 ⟨bx, ox, none⟩ 0 c [] (by simp) (by simp)
        simp [Builtin.append_, run_underlying ht.eq, run_size hi1, Builtin.lenOf, this]
      refine .inl (ex_value (hexec _ _ hr) _ _ ?_)
      rintro u w' ⟨rfl, rfl⟩
      rw [hd]
      exact h _ k ⟨by simp, .inl ⟨rfl, rfl⟩⟩ (fun h hle hap => ⟨hle, hap⟩) _ _ (put _ _) hs
    · have hr := run_append_nil (P := P) w t o.type et i z ht.eq hi1 hi4 ⟨bx, ox, none⟩ j c news hl hnews' (by omega) (by omega) (by simp at hby; omega)
      refine .inl (ex_value (hexec _ _ hr) _ _ ?_)
      rintro u w' ⟨rfl, rfl⟩
      rw [hd]
      have hcap := grownCap_bd w j 0 et (by omega)
      have hb : Below w.heap.size w (w.drew.alloc (.cells (news.toArray ++ Builtin.zeroCells z.cells (grownCap w j 0 et - j)) et)) := (Below.refl _ w).drew.alloc (Nat.le_refl _) _
      refine h _ (upd k w.heap.size (.cells (news.toArray ++ Builtin.zeroCells z.cells (grownCap w j 0 et - j)) et)) ⟨by simpa using hl, .inr ⟨w.heap.size, _, _, by simp, hs.size, upd_same _ _ _, by omega, hcap.2, ?_, ?_⟩⟩ ?_ _ _ (put _ _) (hs.step hb (agr_upd (Nat.le_refl _) _) (sub_alloc (hs.sub.below (below_drawn w _)) _))
      · rw [Array.size_append, size_zeroCells, hzs, List.size_toArray, hl, ← Nat.add_mul]
        congr 1
        omega
      · simp [← hl]
      · intro h' hle hap
        have hn : h' w.heap.size = none := (hs.sub.mono hle).none (Nat.le_refl _)
        exact ⟨hle.upd hn, fun g' hg' => by simp [Value.ownBlock] at hg'; subst hg'; exact hn⟩
  · have hgw := hs.sub _ _ hgk
    by_cases hroom : m + j ≤ cap
    · have hfit : m * i.size + news.length ≤ cur.size := by rw [hl, hcs, ← Nat.add_mul]; exact Nat.mul_le_mul_right _ hroom
      have hr := run_append_room (P := P) w t o.type et i ht.eq hi1 g m cap cur hgw ⟨bx, ox, none⟩ j c news hl hnews' h1 hroom hfit
      refine .inl (ex_value (hexec _ _ hr) _ _ ?_)
      rintro u w' ⟨rfl, rfl⟩
      rw [hd]
      refine h _ (upd k g (.cells (cur.toList.take (m * i.size) ++ news ++ cur.toList.drop (m * i.size + news.length)).toArray et (0, 0))) ⟨hlen, .inr ⟨g, cap, _, rfl, hgN, upd_same _ _ _, hroom, hcm, ?_, ?_⟩⟩ ?_ _ _ (put _ _)
        (hs.turn (.inl hgN) rfl rfl rfl (by simp [World.setRow]) (setRow_heap w g cur _ et _ hgw) fun q hq _ => setRow_other w g q _ hq)
      · have : cur.toList.length = cap * i.size := by simpa using hcs
        simp only [List.size_toArray, List.length_append, List.length_take, List.length_drop, this]
        rw [Array.length_toList] at this
        omega
      · have h3 : (cur.toList.take (m * i.size)) = xs := htake
        rw [h3, show (m + j) * i.size = (xs ++ news).length from hlen.symm]
        exact List.take_left' rfl
      · intro h' hle hap
        have hn : h' g = none := hap g (by simp [Value.ownBlock])
        exact ⟨hle.upd hn, fun g' hg' => hap g' hg'⟩
    · have hold : ∀ q u, xs[q]? = some u → w.cell? ((⟨g, 0, none⟩ : Addr).add q) = some u := by
        intro q u hq
        rw [addr_add]
        simp only [World.cell?, hgw, Option.isSome_none, Bool.false_eq_true, if_false, Nat.zero_add]
        rw [← htake, List.getElem?_take] at hq
        split at hq
        · simpa using hq
        · cases hq
      have hfit : Builtin.nextslicecap (m + j) cap * i.bytes ≤ 281474976710656 := growslice_fits (by omega) hby
      have hr := run_append_grow (P := P) w t o.type et i z ht.eq hi1 hi4 ⟨g, 0, none⟩ m cap xs hxl hold ⟨bx, ox, none⟩ j c news hl hnews' (by omega) (by omega) hfit
      refine .inl (ex_value (hexec _ _ hr) _ _ ?_)
      rintro u w' ⟨rfl, rfl⟩
      rw [hd]
      have hcap := grownCap_bd w (m + j) cap et hm
      have hb : Below w.heap.size w (w.drew.alloc (.cells (xs.toArray ++ news.toArray ++ Builtin.zeroCells z.cells (grownCap w (m + j) cap et - (m + j))) et)) := (Below.refl _ w).drew.alloc (Nat.le_refl _) _
      refine h _ (upd k w.heap.size (.cells (xs.toArray ++ news.toArray ++ Builtin.zeroCells z.cells (grownCap w (m + j) cap et - (m + j))) et)) ⟨hlen, .inr ⟨w.heap.size, _, _, by simp, hs.size, upd_same _ _ _, hcap.1, hcap.2, ?_, ?_⟩⟩ ?_ _ _ (put _ _)
        (hs.step hb (agr_upd (Nat.le_refl _) _) (sub_alloc (hs.sub.below (below_drawn w _)) _))
      · rw [Array.size_append, size_zeroCells, hzs, Array.size_append, List.size_toArray, List.size_toArray, hl, hxl, ← Nat.add_mul, ← Nat.add_mul]
        congr 1
        omega
      · rw [show (m + j) * i.size = (xs ++ news).length from hlen.symm]
        simp only [Array.toList_append, List.toList_toArray]
        exact List.take_left' rfl
      · intro h' hle hap
        have hn : h' w.heap.size = none := (hs.sub.mono hle).none (Nat.le_refl _)
        exact ⟨hle.upd hn, fun g' hg' => by simp [Value.ownBlock] at hg'; subst hg'; exact hn⟩
end
end Go.Wm
namespace Go.Wm
variable [Dfr]
section
variable {P : Program} {F : Fr} {n : Nat} {Q : Exit → Act → World → Prop} {e : Env} {k : PH}
/-- The round's end, where the loop begins anew. -/
theorem eg_again {ι : Type} {I : ι → Env → PH → Prop} {μ : ι → Nat} {m : Nat} (j : ι) (e' : Env) (hI : I j e' k) (hm : μ j < m) (hle : EnvLe e' e) :
    EG F n (Exit.then (fun a w => ∃ j e' k', I j e' k' ∧ μ j < m ∧ Ag n e' k' a ∧ St F k' w) Q .normal) e k :=
  fun _ _ ha hs => ⟨j, e', k, hI, hm, ha.le hle, hs⟩
end
end Go.Wm

/-
  How Lean's data are read off known memory: a number, a text, a slice of whatever is read so. Conditions: none.
-/
namespace Go.Wm
variable [Dfr]
open Go.RowKit

/-- A way to read data of type α off the cells of one element. -/
structure Ty (α : Type) where
  sz : Nat
  rep : PH → List Value → α → Prop
  len : ∀ {h cs x}, rep h cs x → cs.length = sz
  mono : ∀ {h k cs x}, Le h k → rep h cs x → rep k cs x

/-- The slice whose array begins at a, of capacity cap, reads as xs. -/
structure Sl {α : Type} (T : Ty α) (h : PH) (a : Option Addr) (c : Nat) (xs : List α) : Prop where
  cap : xs.length ≤ c
  max : c ≤ maxLen
  nil : a = none → c = 0
  spot : 0 < c → ∀ ad, a = some ad → ad.spot = none
  el : ∀ i x, xs[i]? = some x → ∃ b off cs, a = some ⟨b, off, none⟩ ∧ T.rep h cs x ∧ Cells h b (off + i * T.sz) cs

theorem Sl.le {α : Type} {T : Ty α} {h k : PH} {a : Option Addr} {cap : Nat} {xs : List α} (hs : Sl T h a cap xs) (hl : Le h k) : Sl T k a cap xs :=
  ⟨hs.cap, hs.max, hs.nil, hs.spot, fun i x hx => by
    obtain ⟨b, off, cs, h1, h2, h3⟩ := hs.el i x hx
    exact ⟨b, off, cs, h1, T.mono hl h2, h3.le hl⟩⟩

/-- The int range. -/
def I64 (n : Int) : Prop := -9223372036854775808 ≤ n ∧ n ≤ 9223372036854775807

def tInt : Ty Int where
  sz := 1
  rep := fun _ cs x => cs = [.int .i64 x] ∧ I64 x
  len := fun h => by rw [h.1]; rfl
  mono := fun _ h => h
def tBool : Ty Bool where
  sz := 1
  rep := fun _ cs x => cs = [.bool x]
  len := fun h => by rw [h]; rfl
  mono := fun _ h => h
def tStr : Ty ByteArray where
  sz := 1
  rep := fun _ cs x => cs = [.string x] ∧ x.size ≤ maxLen
  len := fun h => by rw [h.1]; rfl
  mono := fun _ h => h
def tSl {α : Type} (T : Ty α) : Ty (List α) where
  sz := 1
  rep := fun h cs xs => ∃ a cap, cs = [.slice a xs.length cap] ∧ Sl T h a cap xs
  len := fun ⟨_, _, h, _⟩ => by rw [h]; rfl
  mono := fun hl ⟨a, cap, h1, h2⟩ => ⟨a, cap, h1, h2.le hl⟩

/-- One cell of a row. -/
theorem Cells.one {k : PH} {b off : Nat} {vs : List Value} (h : Cells k b off vs) {i : Nat} {v : Value} (hv : vs[i]? = some v) : Cells k b (off + i) [v] :=
  h.sub i fun j u hu => by
    cases j with
    | zero => simp at hu; subst hu; simpa using hv
    | succ j => simp at hu
end Go.Wm
namespace Go.Wm
variable [Dfr]
theorem cells_at {k : PH} {b : Nat} {c : Array Value} {et : TypeId} {fr : Nat × Nat} {vs : List Value} (h : k b = some (.cells c et fr)) (hc : c.toList = vs) : Cells k b 0 vs :=
  ⟨c, et, fr, h, fun i v hv => by rw [Nat.zero_add, ← Array.getElem?_toList, hc]; exact hv⟩
theorem le_new {k : PH} {b : Nat} (h : k b = none) (o : Obj) : Le k (upd k b o) := (Le.refl k).upd h
theorem upd_upd (k : PH) (b : Nat) (o o' : Obj) : upd (upd k b o) b o' = upd k b o' := by
  funext i; unfold upd; split <;> rfl
theorem Cells.upd {k : PH} {b c off : Nat} {vs : List Value} {o : Obj} (h : Cells k b off vs) (hn : k c = none) : Cells (upd k c o) b off vs := h.le (le_new hn o)
end Go.Wm
namespace Go.Wm
variable [Dfr]
/-- Only block b has turned. -/
def Turn1 (k k' : PH) (b : Nat) : Prop := ∀ h, Le h k → h b = none → Le h k'
theorem turn1_upd (k : PH) (b : Nat) (o : Obj) : Turn1 k (upd k b o) b := fun h hl hn => hl.upd hn
section
variable {P : Program} {F : Fr} {n : Nat} {ops : Array Oper} {Q : Exit → Act → World → Prop} {rest : List Oper} {o : Oper} {e : Env} {k : PH}
/-- A new block, the heap behind it under a name. -/
theorem rb {vf : Nat → Value} {obj : Obj} {d : Nat} (hd : o.dst = some d) (hf : Nat.blt d n = true) (hdet : det e = true) (hg : o.guard = none) (hl : Alc P e k o vf obj)
    (h : ∀ b k', k b = none → F.w0.heap.size ≤ b → Le k k' → k' b = some obj → RG P F n ops Q rest ((d, .is (vf b)) :: e) k') : RG P F n ops Q (o :: rest) e k :=
  ra hd hf hdet hg hl fun b hb hN => h b _ hb hN (le_new hb _) (upd_same _ _ _)
/-- A struct stored over the whole of a block of the call's own. -/
theorem rw1 {t : TypeId} {x y : Operand} {b sz bs : Nat} {z : Value} {vs : List Value} {c : Array Value} {et : TypeId} (hd : o.dst = none) (hdet : det e = true) (hg : o.guard = none) [hi : TyI P t sz bs z] (hop : o.op = .store t x y) (hx : opv e x = some (.pointer (some ⟨b, 0, none⟩))) (hy : opv e y = some (.agg vs.toArray))
    (hsz : vs.length = sz) (hk : k b = some (.cells c et (0, 0))) (hcs : c.size = vs.length) (hown : F.w0.heap.size ≤ b ∨ F.mu b) (h1 : ∀ u ∈ vs, u.oneCell' = true)
    (h : ∀ k', Turn1 k k' b → k' b = some (.cells vs.toArray et (0, 0)) → RG P F n ops Q rest e k') : RG P F n ops Q (o :: rest) e k := by
  refine rst_agg hd hdet hg hop hx hy h1 hsz hk (by omega) hown (h _ (turn1_upd _ _ _) ?_)
  rw [upd_same]
  simp [← hcs]
/-- One cell stored into a block of the call's own. -/
theorem rw0 {t : TypeId} {x y : Operand} {b off sz bs : Nat} {z : Value} {v : Value} {c : Array Value} {et : TypeId} (hd : o.dst = none) (hdet : det e = true) (hg : o.guard = none) [hi : TyI P t sz bs z] (hop : o.op = .store t x y) (hx : opv e x = some (.pointer (some ⟨b, off, none⟩))) (hy : opv e y = some v)
    (h1 : v.oneCell' = true) (hsz : Nat.beq sz 1 = true) (hk : k b = some (.cells c et (0, 0))) (hlt : off < c.size) (hown : F.w0.heap.size ≤ b ∨ F.mu b)
    (h : ∀ k', Turn1 k k' b → k' b = some (.cells (c.setIfInBounds off v) et (0, 0)) → RG P F n ops Q rest e k') : RG P F n ops Q (o :: rest) e k :=
  rst hd hdet hg hop hx hy h1 hsz hk hlt hown (h _ (turn1_upd _ _ _) (upd_same _ _ _))
end
end Go.Wm
namespace Go.Wm
variable [Dfr]
instance : LawfulBEq ByteArray where
  eq_of_beq := by
    intro a b h
    rw [beq_toListBytes, beq_toList] at h
    simpa using h
  rfl := by intro a; rw [beq_toListBytes, beq_toList]; simp
end Go.Wm
namespace Go.Wm
variable [Dfr]
/-! ### values that are not known outright, inside a region that draws -/
section
variable {P : Program} {F : Fr} {n : Nat} {ops : Array Oper} {Q : Exit → Act → World → Prop} {rest : List Oper} {o : Oper} {e : Env} {k : PH}
theorem loc_elim {p : PV} (t : Nat) {φ : PH → Value → Prop} (hg : get e t = some (.such φ)) (ht : (o.looksAt ops).contains t = true) (hm : p.Mono) (h : ∀ v k1, Le k k1 → φ k1 v → Loc P n ops o ((t, .is v) :: e) k1 p) : Loc P n ops o e k p := by
  refine ⟨hm, fun a w k1 hk hs hsz hl => ?_⟩
  have hv := hl t (List.contains_iff_mem.1 ht) _ hg
  refine (h (a.tmps.getD t undef) k1 hk hv).2 a w k1 (Le.refl _) hs hsz fun u hu q hq => ?_
  by_cases htu : t = u
  · subst htu
    rw [get_cons_same] at hq
    cases hq
    rfl
  · rw [get_cons_other _ _ htu] at hq
    exact hl u hu q hq
/-- All that is known of slot t is forgotten. -/
def cut (t : Nat) : Env → Env
  | [] => []
  | (d, p) :: r => match Nat.beq d t with | true => cut t r | false => (d, p) :: cut t r
theorem cut_get {t u : Nat} {p : PV} : ∀ {e : Env}, get (cut t e) u = some p → get e u = some p
  | [], h => h
  | (d, q) :: r, h => by
    simp only [cut] at h
    split at h
    · rename_i hb
      have hdt : d = t := Nat.eq_of_beq_eq_true hb
      have hut : u ≠ t := by
        rintro rfl
        have : ∀ e : Env, get (cut u e) u = none := by
          intro e
          induction e with
          | nil => rfl
          | cons x r ih =>
            obtain ⟨d, q⟩ := x
            simp only [cut]
            split
            · exact ih
            · rename_i hb'
              simp only [get, hb']
              exact ih
        rw [this] at h
        cases h
      rw [get_cons_other _ _ (by omega)]
      exact cut_get h
    · rename_i hb
      by_cases hdu : d = u
      · subst hdu
        rw [get_cons_same] at h ⊢
        exact h
      · rw [get_cons_other _ _ hdu] at h ⊢
        exact cut_get h
/-- The end of a region that draws, one slot of which is forgotten. -/
theorem region_cut {id : Nat} {l : List Oper} [hm : Mixed P] (hok : okAny n l = true) (hdet : det e = true) (h : WA P n l.toArray k (fun e' => ∃ t, det (cut t e') = true ∧ EG F n (Q .normal) (cut t e') k) l e) : CG P F n Q (.region id l.toArray true) e k := by
  intro a w ha hs
  refine region_any (F := F) hm.eq hok (fun t q hg => by obtain ⟨v, rfl⟩ := det_get hdet hg; trivial) (WA.mono' (fun e' ⟨t, hd, hE⟩ => ?_) l e h) a w ha hs
  intro k' hle a' w' ha' hs'
  have ha2 : Ag n (cut t e') k' a' := ⟨ha'.size, ha'.defers, fun u p hp => ha'.get u p (cut_get hp)⟩
  exact hE a' w' (ha2.heap hd) (hs'.weak hle hs.keep)
theorem wn_cut (t : Nat) (hd : det (cut t e) = true) (h : EG F n (Q .normal) (cut t e) k) : WA P n ops k (fun e' => ∃ t, det (cut t e') = true ∧ EG F n (Q .normal) (cut t e') k) [] e := ⟨t, hd, h⟩
end

/-! ### calls that turn some old blocks -/
def RetM (k : PH) (w : World) (M : Nat → Prop) (φ : PH → Value → Prop) (e : Ending) (w' : World) : Prop :=
  ∃ v k', e = .returned v ∧ (w'.os = w.os ∧ w'.tape = w.tape ∧ w'.output = w.output ∧ w.heap.size ≤ w'.heap.size) ∧ (∀ b, b < w.heap.size → ¬ M b → w'.heap[b]? = w.heap[b]?) ∧ (∀ b, b < w.heap.size → ¬ M b → k' b = k b) ∧ Sub k' w' ∧ φ k' v
def CTM (P : Program) (f : FuncId) (args : Array Value) (kr : PH) (M : Nat → Prop) (φ : PH → Value → Prop) : Prop :=
  ∀ w, Sub kr w → Calls P f args w (RetM kr w M φ)
theorem ctm_of_body {P : Program} {f : FuncId} {fn : Func} {c : Code} {l : List Value} {k : PH} {M : Nat → Prop} {φ : PH → Value → Prop} (hf : P.funcs[f]? = some fn) (hb : fn.body = some c) {n : Nat} (hn : fn.ntmps = n)
    (hl : l.length ≤ n) (h : ∀ F : Fr, F.k0 = k → F.mu = M → (∀ b o, k b = some o → b < F.w0.heap.size) → CG P F n (bodyPost P fn (RetF F φ)) c (argEnv 0 l) k) (hD : Dfr.ds = [] := by rfl) : CTM P f l.toArray k M φ := by
  intro w hs
  have hs0 : St ⟨w, k, M⟩ k w := ⟨rfl, rfl, rfl, Nat.le_refl _, fun _ _ _ => rfl, hs, fun _ _ _ => rfl⟩
  subst hn
  refine Calls.mono (calls_of_wp (R := RetF ⟨w, k, M⟩ φ) hf hb (h ⟨w, k, M⟩ rfl rfl (fun b o hb => hs.lt hb) _ w (ag_args hl hD) hs0)) ?_
  rintro e w' ⟨v, kc, he, hst, hφ⟩
  exact ⟨v, kc, he, ⟨hst.os, hst.tape, hst.output, hst.size⟩, hst.old, hst.keep, hst.sub, hφ⟩
section
variable {P : Program} {F : Fr} {n : Nat} {ops : Array Oper} {Q : Exit → Act → World → Prop} {rest : List Oper} {o : Oper} {e : Env} {k : PH}
/-- A call that turns blocks of the caller's own. -/
theorem rcm {x : Operand} {args : Array Operand} {ats : Array TypeId} {g : FuncId} {first cap : Array Value} {vs : List Value} [FnOk P g] {M : Nat → Prop} {φ : PH → Value → Prop} {d : Nat}
    (hd : o.dst = some d) (hf : Nat.blt d n = true) (hdet : det e = true) (hgd : o.guard = none) (hop : o.op = .call { callee := .value x, args := args, argTypes := ats }) (hx : opv e x = some (.func (.func g) first cap)) (ha : opvs e args.toList = some vs)
    (hct : CTM P g (first ++ vs.toArray ++ cap) k M φ) (hM : ∀ b, M b → F.w0.heap.size ≤ b ∨ F.mu b)
    (h : ∀ v k', (∀ h, Le h k → (∀ b, M b → h b = none) → Le h k') → φ k' v → RG P F n ops Q rest ((d, .is v) :: e) k') : RG P F n ops Q (o :: rest) e k := by
  intro a w hag hs
  unfold wpList
  rw [if_pos (by simp [Region.wanted, hgd])]
  refine .inl (ex_enter (run_call hop hx ha (evs_of (ops := ops) (ag_looks hag))) (φ := fun v w' => ∃ k', (∀ h, Le h k → (∀ b, M b → h b = none) → Le h k') ∧ φ k' v ∧ St F k' w') ((hct w hs.sub).mono ?_) _ _ ?_)
  · rintro en w' ⟨v, k', h1, ⟨h2a, h2b, h2c, h2d⟩, h3, h4, h5, h6⟩
    refine ⟨v, h1, k', fun h' hle hno b ob hb => ?_, h6, ⟨h2a.trans hs.os, h2b.trans hs.tape, h2c.trans hs.output, Nat.le_trans hs.size h2d, fun b hb hm => ?_, h5, fun b hb hm => ?_⟩⟩
    · have hk := hle b ob hb
      have hnm : ¬ M b := fun hm => by rw [hno b hm] at hb; cases hb
      rw [h4 b (hs.sub.lt hk) hnm]
      exact hk
    · have hnm : ¬ M b := fun hm' => (hM b hm').elim (fun h => by omega) hm
      rw [h3 b (Nat.lt_of_lt_of_le hb hs.size) hnm]
      exact hs.old b hb hm
    · have hnm : ¬ M b := fun hm' => (hM b hm').elim (fun h => by omega) hm
      rw [h4 b (Nat.lt_of_lt_of_le hb hs.size) hnm]
      exact hs.keep b hb hm
  · rintro v w' ⟨k', h1, h2, h3⟩
    rw [hd]
    exact h v k' h1 h2 _ _ ((hag.heap (k' := k') hdet).put (d := some d) hf rfl) h3
/-- What is stored into a block that the call may turn. -/
theorem eg_done {fn : Func} {φ : PH → Value → Prop} (hr : fn.results = #[]) (hφ : φ k (.tuple #[])) (hD : Dfr.ds = [] := by rfl) : EG F n (bodyPost P fn (RetF F φ) .normal) e k := by
  intro a w ha hs
  exact bodyPost_ret (results_none hr _ _ _) (ha.defers.trans hD) ⟨_, k, rfl, hs, hφ⟩
end
end Go.Wm
namespace Go.Wm
variable [Dfr]
section
variable {P : Program} {F : Fr} {n : Nat} {Q : Exit → Act → World → Prop} {e : Env} {k : PH}
/-- Where ways meet again: J is what is known there. -/
theorem cg_join {c : Code} (J : Env → PH → Prop) (h1 : CG P F n (Exit.then (fun a w => ∃ e' k', J e' k' ∧ Ag n e' k' a ∧ St F k' w) Q) c e k) (h2 : ∀ e' k', J e' k' → EG F n (Q .normal) e' k') : CG P F n Q c e k := by
  intro a w ha hs
  refine wp_mono (h1 a w ha hs) ?_
  intro ex a' w' h
  cases ex with
  | normal =>
    obtain ⟨e', k', hJ, ha', hs'⟩ := h
    exact h2 e' k' hJ a' w' ha' hs'
  | _ => exact h
theorem eg_join {J : Env → PH → Prop} (e' : Env) (hJ : J e' k) (hle : EnvLe e' e) : EG F n (Exit.then (fun a w => ∃ e' k', J e' k' ∧ Ag n e' k' a ∧ St F k' w) Q .normal) e k :=
  fun a w ha hs => ⟨e', k, hJ, ha.le hle, hs⟩
end
end Go.Wm

/-
  A region that draws its order, one of whose operations turns something that the others do not turn, and whose last one, if it is a store, waits for all others: one walk in the text's order serves every order. Conditions: the region's own order, a Bool that the kernel reckons.
-/
namespace Go.Wm
variable [Dfr]
open Go.RowKit

/-- As 'Loc', in worlds where I holds besides. -/
def LocI (P : Program) (n : Nat) (ops : Array Oper) (I : PH → World → Prop) (o : Oper) (e : Env) (kr : PH) (p : PV) : Prop :=
  p.Mono ∧ ∀ (a : Act) (w : World) (k : PH), Le kr k → Sub k w → I k w → a.tmps.size = n →
    (∀ t ∈ o.looksAt ops, ∀ q, get e t = some q → q.holds k (a.tmps.getD t undef)) →
    if Region.wanted o (yielded ops a.tmps) then
      Ex P o a w (fun v w' => ∃ k', Below w.heap.size w w' ∧ Agr w.heap.size k k' ∧ Sub k' w' ∧ p.holds k' v)
    else p.holds k undef
theorem LocI.of {P : Program} {n : Nat} {ops : Array Oper} {I : PH → World → Prop} {o : Oper} {e : Env} {kr : PH} {p : PV} (h : Loc P n ops o e kr p) : LocI P n ops I o e kr p :=
  ⟨h.1, fun a w k h1 h2 _ h3 h4 => h.2 a w k h1 h2 h3 h4⟩
/-- The one operation that turns something: from X0 to X1, which is told its value. -/
def EffI (P : Program) (F : Fr) (n : Nat) (ops : Array Oper) (X0 : PH → World → Prop) (X1 : Value → PH → World → Prop) (o : Oper) (e : Env) (kr : PH) (p : PV) : Prop :=
  p.Mono ∧ o.guard = none ∧ ∀ (a : Act) (w : World) (k : PH), Le kr k → St F k w → X0 k w → a.tmps.size = n →
    (∀ t ∈ o.looksAt ops, ∀ q, get e t = some q → q.holds k (a.tmps.getD t undef)) →
    Ex P o a w (fun v w' => ∃ k', Le k k' ∧ St F k' w' ∧ w.heap.size ≤ w'.heap.size ∧ X1 v k' w' ∧ p.holds k' v)

def WE (P : Program) (F : Fr) (n : Nat) (ops : Array Oper) (k : PH) (X0 : PH → World → Prop) (X1 : Value → PH → World → Prop) (K : Nat → Env → Prop) : Nat → Option Nat → List Oper → Env → Prop
  | _, d, [], e => ∃ j, d = some j ∧ K j e
  | i, d, o :: r, e =>
    (∃ p, LocI P n ops X0 o e k p ∧ LocI P n ops (fun k w => ∃ v, X1 v k w) o e k p ∧ WE P F n ops k X0 X1 K (i + 1) d r (set e o.dst p)) ∨
    (d = none ∧ ∃ p, EffI P F n ops X0 X1 o e k p ∧ WE P F n ops k X0 X1 K (i + 1) (some i) r (set e o.dst p))

section
variable {P : Program} {F : Fr} {n : Nat} {ops : Array Oper} {k : PH} {X0 : PH → World → Prop} {X1 : Value → PH → World → Prop} {K : Nat → Env → Prop} {e : Env} {o : Oper} {r : List Oper} {i : Nat} {d : Option Nat}
theorem we_nil {j : Nat} (h : K j e) : WE P F n ops k X0 X1 K i (some j) [] e := ⟨j, rfl, h⟩
theorem we_loc {p : PV} (hl : Loc P n ops o e k p) (h : WE P F n ops k X0 X1 K (i + 1) d r (set e o.dst p)) : WE P F n ops k X0 X1 K i d (o :: r) e := .inl ⟨p, .of hl, .of hl, h⟩
theorem we_two {p : PV} (h0 : LocI P n ops X0 o e k p) (h1 : LocI P n ops (fun k w => ∃ v, X1 v k w) o e k p) (h : WE P F n ops k X0 X1 K (i + 1) d r (set e o.dst p)) : WE P F n ops k X0 X1 K i d (o :: r) e := .inl ⟨p, h0, h1, h⟩
theorem we_eff {p : PV} (he : EffI P F n ops X0 X1 o e k p) (h : WE P F n ops k X0 X1 K (i + 1) (some i) r (set e o.dst p)) : WE P F n ops k X0 X1 K i none (o :: r) e := .inr ⟨rfl, p, he, h⟩
end

/-- What the walk has said of operation i. -/
theorem we_at {P : Program} {F : Fr} {n : Nat} {ops : Array Oper} {k : PH} {X0 : PH → World → Prop} {X1 : Value → PH → World → Prop} {K : Nat → Env → Prop} :
    ∀ (l : List Oper) (i : Nat) (d : Option Nat) (e : Env), WE P F n ops k X0 X1 K i d l e → ∃ (es : Nat → Env) (ps : Nat → PV) (j : Nat), es 0 = e ∧
      (∀ m o, l[m]? = some o → es (m + 1) = set (es m) o.dst (ps m) ∧ ((i + m ≠ j ∨ d = some j) → LocI P n ops X0 o (es m) k (ps m) ∧ LocI P n ops (fun k w => ∃ v, X1 v k w) o (es m) k (ps m)) ∧ (i + m = j → d = none → EffI P F n ops X0 X1 o (es m) k (ps m))) ∧
      K j (es l.length) ∧ (∀ x, d = some x → j = x) ∧ (d = none → i ≤ j ∧ j < i + l.length)
  | [], i, d, e, ⟨j, hd, hK⟩ => ⟨fun _ => e, fun _ => .is undef, j, rfl, fun m o h => by simp at h, hK, fun x hx => by rw [hd] at hx; cases hx; rfl, fun h => by rw [hd] at h; cases h⟩
  | x :: r, i, d, e, .inl ⟨p, h0, h1, h⟩ => by
    obtain ⟨es, ps, j, g0, g1, g2, g3, g4⟩ := we_at r (i + 1) d _ h
    refine ⟨fun m => match m with | 0 => e | m + 1 => es m, fun m => match m with | 0 => p | m + 1 => ps m, j, rfl, fun m o ho => ?_, g2, g3, fun hd => by have := g4 hd; simp; omega⟩
    cases m with
    | zero =>
      simp only [List.getElem?_cons_zero, Option.some.injEq] at ho
      subst ho
      exact ⟨g0, fun _ => ⟨h0, h1⟩, fun hj hd => by have := g4 hd; omega⟩
    | succ m =>
      have := g1 m o (by simpa using ho)
      exact ⟨this.1, fun hj => this.2.1 (by rcases hj with hj | hj; exact .inl (by omega); exact .inr hj), fun hj hd => this.2.2 (by omega) hd⟩
  | x :: r, i, d, e, .inr ⟨hd, p, h0, h⟩ => by
    obtain ⟨es, ps, j, g0, g1, g2, g3, g4⟩ := we_at r (i + 1) (some i) _ h
    have hj := g3 i rfl
    subst hj
    refine ⟨fun m => match m with | 0 => e | m + 1 => es m, fun m => match m with | 0 => p | m + 1 => ps m, j, rfl, fun m o ho => ?_, g2, ?_, fun _ => by simp⟩
    · cases m with
      | zero =>
        simp only [List.getElem?_cons_zero, Option.some.injEq] at ho
        subst ho
        refine ⟨g0, fun hne => ?_, fun _ _ => h0⟩
        rcases hne with hne | hne
        · exact absurd rfl hne
        · rw [hd] at hne
          cases hne
      | succ m =>
        have := g1 m o (by simpa using ho)
        exact ⟨this.1, fun _ => this.2.1 (.inr rfl), fun hj _ => by omega⟩
    · intro x hx
      rw [hd] at hx
      cases hx

structure MidE (F : Fr) (n : Nat) (ops : List Oper) (es0 : Env) (ps : Nat → PV) (k : PH) (X0 : PH → World → Prop) (X1 : Value → PH → World → Prop) (je : Nat) (L : Array Bool) (a : Act) (w : World) (k' : PH) : Prop where
  size : L.size = ops.length
  tsize : a.tmps.size = n
  defers : a.defers = Dfr.ds
  st : St F k' w
  le : Le k k'
  x0 : L.getD je false = false → X0 k' w
  x1 : L.getD je false = true → ∀ o d, ops[je]? = some o → o.dst = some d → X1 (a.tmps.getD d undef) k' w
  down : ∀ i o, ops[i]? = some o → L.getD i false = true → ∀ ed ∈ o.after.toList, Region.binds .any ed = true → L.getD ed.on false = true
  done : ∀ i o d, ops[i]? = some o → o.dst = some d → L.getD i false = true → (ps i).holds k' (a.tmps.getD d undef)
  rest : ∀ t, (∀ i o, ops[i]? = some o → o.dst = some t → L.getD i false = false) → ∀ q, get es0 t = some q → q.holds k' (a.tmps.getD t undef)

/-- The last operation waits for all others. -/
def lastOk (ops : List Oper) : Bool := (List.range (ops.length - 1)).all fun j => ((masks ops []).getD (ops.length - 1) 0).testBit j

theorem region_eff {P : Program} {F : Fr} {n : Nat} {A : List Oper} {last : Oper} {k : PH} {X0 : PH → World → Prop} {X1 : Value → PH → World → Prop} {Q : Exit → Act → World → Prop} {e : Env} {id : Nat} (hm : P.follows .mixedOrders = true) (hok : okAny n (A ++ [last]) = true) (hlast : lastOk (A ++ [last]) = true)
    (hdst : ∀ (o : Oper), o ∈ A → o.dst.isSome = true) (s0 : ∀ k w k' w', Below w.heap.size w w' → Agr w.heap.size k k' → X0 k w → X0 k' w') (s1 : ∀ v k w k' w', Below w.heap.size w w' → Agr w.heap.size k k' → X1 v k w → X1 v k' w')
    (hmono : ∀ t q, get e t = some q → q.Mono) {a : Act} {w : World} (ha : Ag n e k a) (hs : St F k w) (hx : X0 k w)
    (h : WE P F n (A ++ [last]).toArray k X0 X1 (fun j e' => ∀ k' a' w', Le k k' → Ag n e' k' a' → St F k' w' → (∀ o d, (A ++ [last])[j]? = some o → o.dst = some d → X1 (a'.tmps.getD d undef) k' w') → wpList P (A ++ [last]).toArray Q [last] a' w') 0 none A e) :
    (Code.region id (A ++ [last]).toArray true).wp P Q a w := by
  generalize hops : A ++ [last] = ops at *
  have hlen : ops.length = A.length + 1 := by rw [← hops]; simp
  have hA : ∀ m, m < A.length → A[m]? = ops[m]? := fun m hm => by rw [← hops, List.getElem?_append_left hm]
  have hL : ops[A.length]? = some last := by rw [← hops]; simp
  obtain ⟨es, ps, je, h0, h1', hK, _, hje'⟩ := we_at A 0 none e h
  have hje : je < A.length := by have := hje' rfl; omega
  obtain ⟨g1, g2, g3, g4⟩ := okAny_parts hok
  -- the last one has a word of its own, which is never asked
  have h1 : ∀ i o, i < A.length → ops[i]? = some o → es (i + 1) = set (es i) o.dst (ps i) ∧ (i ≠ je → LocI P n ops.toArray X0 o (es i) k (ps i) ∧ LocI P n ops.toArray (fun k w => ∃ v, X1 v k w) o (es i) k (ps i)) ∧ (i = je → EffI P F n ops.toArray X0 X1 o (es i) k (ps i)) := by
    intro i o hi ho
    have := h1' i o (by rw [hA i hi]; exact ho)
    simp only [Nat.zero_add] at this
    exact ⟨this.1, fun hne => this.2.1 (.inl hne), fun he => by first | exact this.2.2 he rfl | exact this.2.2 he trivial⟩
  have hes : ∀ (i : Nat), i ≤ A.length → ∀ t, (∃ j o, j < i ∧ ops[j]? = some o ∧ o.dst = some t ∧ get (es i) t = some (ps j)) ∨ ((∀ j o, j < i → ops[j]? = some o → o.dst ≠ some t) ∧ get (es i) t = get (es 0) t) := by
    intro i hi t
    have gA : distinct (A.filterMap (·.dst)) = true := by
      have h2 := g2
      rw [← hops, List.filterMap_append] at h2
      have : ∀ (p q : List Nat), distinct (p ++ q) = true → distinct p = true := by
        intro p q
        induction p with
        | nil => intro _; rfl
        | cons x p ih =>
          intro h
          simp only [List.cons_append, distinct, Bool.and_eq_true, Bool.not_eq_true'] at h ⊢
          refine ⟨?_, ih h.2⟩
          have h3 := h.1
          cases hc : p.contains x with
          | false => rfl
          | true =>
            rw [List.contains_iff_mem] at hc
            rw [List.contains_iff_mem.2 (List.mem_append_left q hc)] at h3
            cases h3
      exact this _ _ h2
    have := es_get (ops := A) (es := es) (ps := ps) gA (fun i o ho => by
      have hi : i < A.length := (List.getElem?_eq_some_iff.1 ho).1
      exact (h1 i o hi (by rw [← hA i hi]; exact ho)).1) i hi t
    rcases this with ⟨j, o, hj, ho, hd, hg⟩ | ⟨hno, hg⟩
    · exact .inl ⟨j, o, hj, by rw [← hA j (by omega)]; exact ho, hd, hg⟩
    · exact .inr ⟨fun j o hj ho => hno j o hj (by rw [hA j (by omega)]; exact ho), hg⟩
  refine wp_region_any hm ?_
  have hb0 : Below w.heap.size w { w with drawn := w.drawn + 1 } := below_drawn w _
  have start : MidE F n ops e ps k X0 X1 je (Array.replicate ops.toArray.size false) a { w with drawn := w.drawn + 1 } k := by
    have hf : ∀ i, (Array.replicate ops.toArray.size false).getD i false = false := fun i => by
      rw [Array.getD_eq_getD_getElem?, Array.getElem?_replicate]
      split <;> rfl
    refine ⟨by simp, ha.size, ha.defers, hs.below hb0, Le.refl _, fun _ => s0 _ _ _ _ hb0 (Agr.refl _ _) hx, fun hl => ?_, fun i o ho hl => ?_, fun i o d ho hd hl => ?_, fun t _ q hq => ha.get t q hq⟩
    · rw [hf] at hl; cases hl
    · rw [hf] at hl; cases hl
    · rw [hf] at hl; cases hl
  -- all are carried out
  have over : ∀ fuel L a' w', L.size = ops.length → (∀ i, i < ops.length → L.getD i false = true) → Q .normal a' w' → wpAny P .any ops.toArray Q fuel L a' w' := by
    intro fuel L a' w' hsz hall hQ
    have hr : Region.ready .any ops.toArray L = [] := by
      unfold Region.ready
      rw [List.filter_eq_nil_iff]
      intro i hi
      have hi' : i < ops.length := by simpa using hi
      have h2 := hall i hi'
      have : L.getD i true = true := by
        rw [Array.getD_eq_getD_getElem?] at h2 ⊢
        have : i < L.size := by omega
        rw [Array.getElem?_eq_getElem this] at h2 ⊢
        exact h2
      simp [this]
    cases fuel with
    | zero => exact ⟨hr, hQ⟩
    | succ f => exact ⟨fun _ => hQ, fun i hi => by rw [hr] at hi; cases hi⟩
  have key : ∀ (fuel : Nat) (L : Array Bool) (a' : Act) (w' : World) (k' : PH), MidE F n ops e ps k X0 X1 je L a' w' k' → L.getD A.length false = false → (L.toList.count false ≤ fuel) → wpAny P .any ops.toArray Q fuel L a' w' := by
    intro fuel
    induction fuel with
    | zero =>
      intro L a' w' k' hmid hlf hc
      exfalso
      have hsz : A.length < L.size := by rw [hmid.size]; omega
      have : (false : Bool) ∈ L.toList := by
        rw [Array.getD_eq_getD_getElem?, Array.getElem?_eq_getElem hsz] at hlf
        have : L[A.length] = false := by simpa using hlf
        rw [← this]
        exact Array.mem_toList_iff.2 (Array.getElem_mem hsz)
      have := List.count_pos_iff.2 this
      omega
    | succ fuel ih =>
      intro L a' w' k' hmid hlf hc
      have notnil : Region.ready .any ops.toArray L ≠ [] := by
        intro hr
        have all : ∀ m i, i < m → i < ops.length → L.getD i false = true := by
          intro m
          induction m with
          | zero => intro i h; omega
          | succ m ihm =>
            intro i him hi
            cases hLi : L.getD i false with
            | true => rfl
            | false =>
              exfalso
              have ho : ops[i]? = some ops[i] := List.getElem?_eq_getElem hi
              have hsz : i < L.size := by rw [hmid.size]; exact hi
              have hLt : L.getD i true = false := by
                rw [Array.getD_eq_getD_getElem?, Array.getElem?_eq_getElem hsz] at hLi ⊢
                exact hLi
              have : i ∈ Region.ready .any ops.toArray L := by
                unfold Region.ready
                refine List.mem_filter.2 ⟨by simpa using hi, ?_⟩
                simp only [hLt, List.getElem?_toArray, ho, Option.map_some, Option.getD_some, Bool.not_false, Bool.true_and]
                rw [← Array.all_toList, List.all_eq_true]
                intro ed he
                by_cases hb : Region.binds .any ed = true
                · have hon := g4 i _ ho ed he hb
                  rw [ihm ed.on (by omega) (by omega)]
                  simp
                · simp [hb]
              rw [hr] at this
              cases this
        have := all _ A.length (Nat.lt_succ_self _) (by omega)
        rw [hlf] at this
        cases this
      refine ⟨fun hr => absurd hr notnil, fun i hi => ?_⟩
      unfold Region.ready at hi
      obtain ⟨hi1, hi2⟩ := List.mem_filter.1 hi
      have hil : i < ops.length := by simpa using hi1
      have ho : ops[i]? = some ops[i] := List.getElem?_eq_getElem hil
      have hsz : i < L.size := by rw [hmid.size]; exact hil
      simp only [List.getElem?_toArray, ho, Option.map_some, Option.getD_some, Bool.and_eq_true, Bool.not_eq_true'] at hi2
      obtain ⟨hLi, hed⟩ := hi2
      rw [← Array.all_toList, List.all_eq_true] at hed
      have hed' : ∀ ed ∈ (ops[i]).after.toList, Region.binds .any ed = true → L.getD ed.on false = true := fun ed he hb => by
        have := hed ed he
        rw [hb] at this
        simpa using this
      have hLf : L.getD i false = false := by
        rw [Array.getD_eq_getD_getElem?, Array.getElem?_eq_getElem hsz] at hLi ⊢
        exact hLi
      have hset : ∀ j, (L.setIfInBounds i true).getD j false = if j = i then true else L.getD j false := by
        intro j
        rw [Array.getD_eq_getD_getElem?, Array.getD_eq_getD_getElem?, Array.getElem?_setIfInBounds]
        by_cases hji : i = j
        · subst hji; simp [hsz]
        · simp [hji, Ne.symm hji]
      by_cases hiA : i = A.length
      · -- the last one
        subst hiA
        have hlo : ops[A.length] = last := by rw [hL] at ho; exact (Option.some.inj ho).symm
        have all : ∀ j, j < A.length → L.getD j false = true := by
          intro j hj
          refine mask_done g4 L hmid.down (A.length + 1) A.length (Nat.lt_succ_self _) _ ho hed' j ?_
          unfold lastOk at hlast
          rw [List.all_eq_true] at hlast
          have := hlast j (List.mem_range.2 (by omega))
          rw [hlen] at this
          simpa using this
        have hx1 := hmid.x1 (all je hje)
        have hfin := hK k' a' w' hmid.le ⟨hmid.tsize, hmid.defers, fun t q hq => ?_⟩ hmid.st hx1
        · unfold wpOp
          simp only [List.getElem?_toArray, ho]
          unfold wpList at hfin
          rw [hlo]
          have hov : ∀ a'' w'', Q .normal a'' w'' → wpAny P .any ops.toArray Q fuel (L.setIfInBounds A.length true) a'' w'' := fun a'' w'' hQ =>
            over _ _ _ _ (by simp [hmid.size]) (fun j hj => by
              rw [hset]
              split
              · rfl
              · exact all j (by omega)) hQ
          split
          · rename_i hw
            rw [if_pos hw] at hfin
            rcases hfin with hfin | hfin
            · exact .inl (Oper.wp_mono (fun a'' w'' hq => hov a'' w'' hq) hfin)
            · exact .inr hfin
          · rename_i hw
            rw [if_neg hw] at hfin
            exact hov _ _ hfin
        · rcases hes A.length (Nat.le_refl _) t with ⟨j, o, hj, hoj, hd, hg⟩ | ⟨hno, hg⟩
          · rw [hg] at hq
            cases hq
            exact hmid.done j o t hoj hd (all j hj)
          · rw [hg, h0] at hq
            refine hmid.rest t (fun j o hoj hd => ?_) q hq
            by_cases hjA : j < A.length
            · exact absurd hd (hno j o hjA hoj)
            · have hjl : j < ops.length := (List.getElem?_eq_some_iff.1 hoj).1
              have : j = A.length := by omega
              subst this
              exact hlf
      · have hiA' : i < A.length := by omega
        have looks : ∀ t ∈ (ops[i]).looksAt ops.toArray, ∀ q, get (es i) t = some q → q.holds k' (a'.tmps.getD t undef) := by
          intro t ht q hq
          rcases hes i (by omega) t with ⟨j, o, hj, hoj, hd, hg⟩ | ⟨hno, hg⟩
          · rw [hg] at hq
            cases hq
            refine hmid.done j o t hoj hd ?_
            have hp := g3 i j hil (by omega)
            unfold okPair at hp
            simp only [hoj, ho, Option.bind_some, hd] at hp
            have hc1 : (slots ops ops[i]).contains t = true := List.contains_iff_mem.2 ht
            have hji : Nat.blt j i = true := by simpa [Nat.blt_eq] using hj
            simp only [hc1, if_true, hji] at hp
            exact mask_done g4 L hmid.down (i + 1) i (Nat.lt_succ_self i) _ ho hed' j hp
          · rw [hg, h0] at hq
            refine hmid.rest t (fun j o hoj hd => ?_) q hq
            cases hLj : L.getD j false with
            | false => rfl
            | true =>
              exfalso
              have hjl : j < ops.length := (List.getElem?_eq_some_iff.1 hoj).1
              have hji : ¬ j < i := fun hlt => hno j o hlt hoj hd
              have hne : j ≠ i := by rintro rfl; rw [hLf] at hLj; cases hLj
              have hp := g3 i j hil hjl
              unfold okPair at hp
              simp only [hoj, ho, Option.bind_some, hd] at hp
              have hc1 : (slots ops ops[i]).contains t = true := List.contains_iff_mem.2 ht
              have b1 : Nat.blt j i = false := by cases e : Nat.blt j i with | false => rfl | true => exact absurd (by simpa [Nat.blt_eq] using e) hji
              have b2 : Nat.blt i j = true := by rw [Nat.blt_eq]; omega
              simp only [hc1, if_true, b1, b2, Bool.false_eq_true, if_false] at hp
              have := mask_done g4 L hmid.down (j + 1) j (Nat.lt_succ_self j) _ hoj (hmid.down j o hoj hLj) i hp
              rw [hLf] at this
              cases this
        have hcount : (L.setIfInBounds i true).toList.count false ≤ fuel := by
          have h3 : (L.setIfInBounds i true).toList = L.toList.set i true := by simp
          rw [h3]
          have h4 : L.toList[i]? = some false := by
            rw [Array.getD_eq_getD_getElem?, Array.getElem?_eq_getElem hsz] at hLf
            simp [hsz]
            simpa using hLf
          have h5 : i < L.toList.length := by simpa using hsz
          have h6 := List.count_set (a := true) (b := false) (l := L.toList) (i := i) (h := h5)
          rw [h6]
          have h7 : L.toList[i] = false := by
            rw [List.getElem?_eq_getElem h5] at h4
            exact Option.some.inj h4
          rw [h7]
          simp
          have : 0 < L.toList.count false := List.count_pos_iff.2 (List.mem_of_getElem? h4)
          simp at hc
          omega
        have hlf' : (L.setIfInBounds i true).getD A.length false = false := by
          rw [hset, if_neg (by omega)]; exact hlf
        have step : ∀ v w'' k'', St F k'' w'' → Le k' k'' → (ps i).holds k'' v → ((L.setIfInBounds i true).getD je false = false → X0 k'' w'') → ((L.setIfInBounds i true).getD je false = true → ∀ o d, ops[je]? = some o → o.dst = some d → X1 ((a'.put (ops[i]).dst v).tmps.getD d undef) k'' w'') →
            MidE F n ops e ps k X0 X1 je (L.setIfInBounds i true) (a'.put (ops[i]).dst v) w'' k'' := by
          intro v w'' k'' hst hle hp hx0 hx1
          refine ⟨by simp [hmid.size], (put_size _ _ _).trans hmid.tsize, (put_defers _ _ _).trans hmid.defers, hst, hmid.le.trans hle, hx0, hx1, ?_, ?_, ?_⟩
          · intro j o hoj hLj ed he hbd
            rw [hset] at hLj ⊢
            split
            · rfl
            · by_cases hji : j = i
              · subst hji
                rw [ho] at hoj
                cases hoj
                exact hed' ed he hbd
              · rw [if_neg hji] at hLj
                exact hmid.down j o hoj hLj ed he hbd
          · intro j o d hoj hd hLj
            rw [hset] at hLj
            by_cases hji : j = i
            · subst hji
              rw [ho] at hoj
              cases hoj
              rw [hd, put_getD_same (by rw [hmid.tsize]; exact g1 j _ d ho hd)]
              exact hp
            · rw [if_neg hji] at hLj
              have hdd : ∀ d', (ops[i]).dst = some d' → d' ≠ d := fun d' hd' hdd => hji (distinct_spec g2 hoj ho hd (hdd ▸ hd'))
              have hjA : j < A.length := by
                have hjl : j < ops.length := (List.getElem?_eq_some_iff.1 hoj).1
                rcases Nat.lt_or_ge j A.length with h | h
                · exact h
                · have : j = A.length := by omega
                  subst this
                  rw [hlf] at hLj
                  cases hLj
              have hpm : (ps j).Mono := by
                have := h1 j o hjA hoj
                by_cases hjj : j = je
                · exact (this.2.2 hjj).1
                · exact (this.2.1 hjj).1.1
              have := PV.holds_mono hpm hle (hmid.done j o d hoj hd hLj)
              cases hx : (ops[i]).dst with
              | none => exact this
              | some d' => rw [put_getD_other (hdd d' hx)]; exact this
          · intro t hno q hq
            have hm2 := hmono t q hq
            have hnt : (ops[i]).dst ≠ some t := fun hd => by
              have := hno i _ ho hd
              rw [hset, if_pos rfl] at this
              cases this
            have := PV.holds_mono hm2 hle (hmid.rest t (fun j o hoj hd => by
              have := hno j o hoj hd
              rw [hset] at this
              split at this
              · cases this
              · exact this) q hq)
            cases hx : (ops[i]).dst with
            | none => exact this
            | some d' => rw [put_getD_other (fun h => hnt (by rw [hx, h]))]; exact this
        unfold wpOp
        simp only [List.getElem?_toArray, ho]
        by_cases hie : i = je
        · -- the effect
          subst hie
          have heff := (h1 i _ hiA' ho).2.2 rfl
          have hx0 := hmid.x0 hLf
          have hex := heff.2.2 a' w' k' hmid.le hmid.st hx0 hmid.tsize looks
          rw [if_pos (by simp [Region.wanted, heff.2.1])]
          refine .inl (hex _ _ fun v w'' ⟨k'', hle, hst, hszl, hx1, hp⟩ => ih _ _ _ _ (step v w'' k'' hst hle hp (fun h => by rw [hset, if_pos rfl] at h; cases h) (fun _ o d ho' hd => ?_)) hlf' hcount)
          rw [ho] at ho'
          cases ho'
          rw [hd, put_getD_same (by rw [hmid.tsize]; exact g1 i _ d ho hd)]
          exact hx1
        · have hloc := (h1 i _ hiA' ho).2.1 hie
          have hne : (L.setIfInBounds i true).getD je false = L.getD je false := by rw [hset, if_neg (Ne.symm hie)]
          have put_je : ∀ v o d, ops[je]? = some o → o.dst = some d → (a'.put (ops[i]).dst v).tmps.getD d undef = a'.tmps.getD d undef := by
            intro v o d hoj hd
            cases hx : (ops[i]).dst with
            | none => rfl
            | some d' =>
              have : d' ≠ d := fun hdd => hie (distinct_spec g2 ho hoj (hdd ▸ hx) hd)
              rw [put_getD_other this]
          have go : ∀ v w'' k'', Below w'.heap.size w' w'' → Agr w'.heap.size k' k'' → Sub k'' w'' → (ps i).holds k'' v → wpAny P .any ops.toArray Q fuel (L.setIfInBounds i true) (a'.put (ops[i]).dst v) w'' := by
            intro v w'' k'' hb hag hsub hp
            refine ih _ _ _ _ (step v w'' k'' (hmid.st.step hb hag hsub) (hag.le hmid.st.sub) hp (fun h => s0 _ _ _ _ hb hag (hmid.x0 (by rw [← hne]; exact h))) (fun h o d hoj hd => ?_)) hlf' hcount
            rw [put_je v o d hoj hd]
            exact s1 _ _ _ _ _ hb hag (hmid.x1 (by rw [← hne]; exact h) o d hoj hd)
          have hex : if Region.wanted ops[i] (yielded ops.toArray a'.tmps) then Ex P ops[i] a' w' (fun v w'' => ∃ k'', Below w'.heap.size w' w'' ∧ Agr w'.heap.size k' k'' ∧ Sub k'' w'' ∧ (ps i).holds k'' v) else (ps i).holds k' undef := by
            cases hLje : L.getD je false with
            | false => exact hloc.1.2 a' w' k' hmid.le hmid.st.sub (hmid.x0 hLje) hmid.tsize looks
            | true =>
              have hoj : ops[je]? = some ops[je] := List.getElem?_eq_getElem (by omega)
              have hdj := hdst ops[je] (by rw [← hA je hje] at hoj; exact List.mem_of_getElem? hoj)
              obtain ⟨d, hd⟩ := Option.isSome_iff_exists.1 hdj
              exact hloc.2.2 a' w' k' hmid.le hmid.st.sub ⟨_, hmid.x1 hLje _ d hoj hd⟩ hmid.tsize looks
          split
          · rename_i hw
            rw [if_pos hw] at hex
            exact .inl (hex _ _ fun v w'' ⟨k'', hb, hag, hsub, hp⟩ => go v w'' k'' hb hag hsub hp)
          · rename_i hw
            rw [if_neg hw] at hex
            exact go undef w' k' (Below.refl _ _) (Agr.refl _ _) hmid.st.sub hex
  refine key _ _ _ _ _ start ?_ ?_
  · rw [Array.getD_eq_getD_getElem?, Array.getElem?_replicate]
    split <;> rfl
  · simp [List.count_replicate]
end Go.Wm

/-
  Maps whose keys are plain data: what a look-up, an entry, a store and an update do, from what is known of the map. Conditions: the key's type is one that '==' decides ('KeyOk').
-/
namespace Go.Wm
variable [Dfr]
open Go.RowKit

/-- Keys of type kt are α's data, as enc has them. -/
class KeyOk (P : Program) (kt : TypeId) {α : Type} [DecidableEq α] (enc : α → Value) : Prop where
  chk : ∀ (em : Bool) (w : World) (x : α), (Instr.checkKey em 10000 kt (enc x)).run P w = .ok () w
  eqv : ∀ (w : World) (x y : α), (Op.equal kt (enc x) (enc y)).run P w = .ok (decide (x = y)) w
  now : ∃ d, P.underlying kt = some d ∧ ((∀ x y, Instr.sameNow d (enc x) (enc y) = some (decide (x = y))) ∨ (∀ x y, Instr.sameNow d (enc x) (enc y) = none))
  bits : ∀ x : α, Instr.sameBits 10000 (enc x) (enc x) = true

def toE {α : Type} (enc : α → Value) (p : α × Value × Nat) : MapEntry := { key := enc p.1, val := p.2.1, born := p.2.2 }
/-- Where x is, and what lies there. -/
def lookE {α : Type} [DecidableEq α] (x : α) : List (α × Value × Nat) → Nat → Option (Nat × Value)
  | [], _ => none
  | p :: r, i => if x = p.1 then some (i, p.2.1) else lookE x r (i + 1)

section
variable {P : Program} {kt : TypeId} {α : Type} [DecidableEq α] {enc : α → Value}
theorem find_now {d : TypeDesc} (h : ∀ x y, Instr.sameNow d (enc x) (enc y) = some (decide (x = y))) (x : α) : ∀ (es : List (α × Value × Nat)) (i : Nat), Instr.findNow d (enc x) (es.map (toE enc)) i = some (lookE x es i)
  | [], i => rfl
  | p :: r, i => by
    simp only [List.map_cons, Instr.findNow, toE, h, lookE]
    by_cases hx : x = p.1
    · simp [hx]
    · simp only [hx, decide_false, if_false]
      exact find_now h x r (i + 1)
theorem find_ask [h : KeyOk P kt enc] (w : World) (x : α) : ∀ (es : List (α × Value × Nat)) (i : Nat), (Instr.findAsking kt (enc x) (es.map (toE enc)) i).run P w = .ok (lookE x es i) w
  | [], i => rfl
  | p :: r, i => by
    simp only [List.map_cons, Instr.findAsking, toE, Sem.run_bind, h.eqv, Result.andThen_ok, lookE]
    by_cases hx : x = p.1
    · simp [hx]
    · simp only [hx, decide_false, Bool.false_eq_true, if_false]
      exact find_ask w x r (i + 1)
theorem run_find [h : KeyOk P kt enc] (w : World) (x : α) (es : List (α × Value × Nat)) : (Instr.findKey kt (enc x) (es.map (toE enc))).run P w = .ok (lookE x es 0) w := by
  obtain ⟨d, hd, hn⟩ := h.now
  rcases hn with hn | hn
  · simp [Instr.findKey, run_underlying hd, find_now hn]
  · cases es with
    | nil => simp [Instr.findKey, run_underlying hd, Instr.findNow, lookE]
    | cons p r =>
      have : Instr.findNow d (enc x) ((p :: r).map (toE enc)) 0 = none := by simp [Instr.findNow, toE, hn]
      simp only [Instr.findKey, Sem.run_bind, run_underlying hd, Result.andThen_ok, this]
      exact find_ask w x _ 0

/-- What is at x, or z. -/
def atE (x : α) (z : Value) (es : List (α × Value × Nat)) : Value := match lookE x es 0 with | some (_, v) => v | none => z

theorem lookE_mem {x : α} : ∀ {es : List (α × Value × Nat)} {i j : Nat} {v : Value}, lookE x es i = some (j, v) → i ≤ j ∧ ∃ p, es[j - i]? = some p ∧ p.1 = x ∧ p.2.1 = v
  | [], i, j, v, h => by simp [lookE] at h
  | p :: r, i, j, v, h => by
    simp only [lookE] at h
    split at h
    · rename_i hx
      cases h
      exact ⟨Nat.le_refl _, p, by simp, hx.symm, rfl⟩
    · obtain ⟨h1, q, h2, h3, h4⟩ := lookE_mem h
      refine ⟨by omega, q, ?_, h3, h4⟩
      rw [show j - i = (j - (i + 1)) + 1 by omega]
      simpa using h2
theorem lookE_none {x : α} : ∀ {es : List (α × Value × Nat)} {i : Nat}, lookE x es i = none ↔ ∀ p ∈ es, p.1 ≠ x
  | [], i => by simp [lookE]
  | p :: r, i => by
    simp only [lookE]
    split
    · rename_i hx
      simp [hx]
    · rename_i hx
      rw [lookE_none]
      simp only [List.forall_mem_cons]
      exact ⟨fun h => ⟨fun e => hx e.symm, h⟩, fun h => h.2⟩

variable {n : Nat} {ops : Array Oper} {o : Oper} {e : Env} {k : PH}
theorem run_lookup {t et : TypeId} {sz bs : Nat} {z : Value} [ht : TyU P t (.map kt et)] [hz : TyI P et sz bs z] [h : KeyOk P kt enc] {r : Nat} {es : List (α × Value × Nat)} {cl : Nat} {w : World} (hw : w.heap[r]? = some (.map (es.map (toE enc)).toArray cl)) (x : α) (ok : Bool) :
    (Instr.lookup t (.map (some r)) (enc x) ok).run P w = .ok (if ok then .tuple #[atE x z es, .bool (lookE x es 0).isSome] else atE x z es) w := by
  simp only [Instr.lookup, Sem.run_bind, run_underlying ht.eq, Result.andThen_ok, run_getObj_map w _ _ _ hw, Sem.run_pure, h.chk, run_find, List.toList_toArray]
  unfold atE
  cases lookE x es 0 with
  | none => simp [run_zero]
  | some p => obtain ⟨i, v⟩ := p; simp
/-- A look-up. -/
theorem d_lookup {t et : TypeId} {sz bs : Nat} {z : Value} {m key : Operand} {r : Nat} {x : α} {es : List (α × Value × Nat)} {cl : Nat} [ht : TyU P t (.map kt et)] [hz : TyI P et sz bs z] [h : KeyOk P kt enc] (hop : o.op = .lookup t m key false) (hmv : opv e m = some (.map (some r))) (hkv : opv e key = some (enc x))
    (hk : k r = some (.map (es.map (toE enc)).toArray cl)) : Det P e k o (atE x z es) := by
  intro ev w hev hs
  rw [hop] at hev
  simp [execOp, hop, hev m (by simp [Op.operands]) _ hmv, hev key (by simp [Op.operands]) _ hkv, run_lookup (hs _ _ hk) x false (z := z)]
/-- A look-up in worlds of a phase. -/
theorem li_lookup {I : PH → World → Prop} {t et : TypeId} {sz bs : Nat} {z : Value} {m key : Operand} {r : Nat} {x : α} {v : Value} [ht : TyU P t (.map kt et)] [hz : TyI P et sz bs z] [h : KeyOk P kt enc] (hg : wantedE ops e o = some true) (hop : o.op = .lookup t m key false) (hmv : opv e m = some (.map (some r))) (hkv : opv e key = some (enc x))
    (hI : ∀ k w, I k w → ∃ (es : List (α × Value × Nat)) (cl : Nat), w.heap[r]? = some (.map (es.map (toE enc)).toArray cl) ∧ atE x z es = v) : LocI P n ops I o e k (.is v) := by
  refine ⟨trivial, fun a w k1 hk hs hi _ hl => ?_⟩
  rw [if_pos (wanted_of hl hg)]
  have hev := evs_of hl
  rw [hop] at hev
  obtain ⟨es, cl, hw, hv⟩ := hI _ w hi
  have hr : (execOp a.eval o).run P w = .ok (.value v) w := by
    simp [execOp, hop, hev m (by simp [Op.operands]) _ hmv, hev key (by simp [Op.operands]) _ hkv, run_lookup hw x false (z := z), hv]
  exact (ex_value hr).mono fun u u' ⟨h1, h2⟩ => by
    subst h2
    exact ⟨k1, Below.refl _ _, Agr.refl _ _, hs, h1⟩

/-- The map behind 'mapEntry', and the stamp of the entry. -/
def entE (x : α) (z : Value) (es : List (α × Value × Nat)) (cl : Nat) : List (α × Value × Nat) × Nat × Nat :=
  match lookE x es 0 with
  | some (i, _) => (es, cl, ((es[i]?).map (·.2.2)).getD 0)
  | none => (es ++ [(x, z, cl)], cl + 1, cl)
theorem heap_setObj {w : World} {r : Nat} {ob o' : Obj} (h : w.heap[r]? = some ob) : (w.heap.setIfInBounds r o')[r]? = some o' := by
  have : r < w.heap.size := (Array.getElem?_eq_some_iff.1 h).1
  simp [this]
theorem set_map {w : World} {r : Nat} {es : Array MapEntry} {cl : Nat} (ob : Obj) (h : w.heap[r]? = some (.map es cl)) : (setObj r ob).run P w = .ok () { w with heap := w.heap.setIfInBounds r ob } := by
  simp [setObj, Sem.run, h]
theorem run_entry [h : KeyOk P kt enc] {t et : TypeId} {sz bs : Nat} {z : Value} [ht : TyU P t (.map kt et)] [hz : TyI P et sz bs z] {r : Nat} {es : List (α × Value × Nat)} {cl : Nat} {w : World} (hw : w.heap[r]? = some (.map (es.map (toE enc)).toArray cl)) (x : α) :
    (Instr.mapEntry t (.map (some r)) (enc x)).run P w = .ok (.tuple #[atE x z es, .int .i64 ((entE x z es cl).2.2 : Nat)]) { w with heap := w.heap.setIfInBounds r (.map (((entE x z es cl).1).map (toE enc)).toArray (entE x z es cl).2.1) } := by
  simp only [Instr.mapEntry, Sem.run_bind, run_underlying ht.eq, Result.andThen_ok, run_getObj_map w _ _ _ hw, h.chk, run_find, List.toList_toArray]
  unfold atE entE
  cases hl : lookE x es 0 with
  | none =>
    simp [run_zero, set_map _ hw, goInt, toE]
  | some p =>
    obtain ⟨i, v⟩ := p
    obtain ⟨_, q, hq, hqx, hqv⟩ := lookE_mem hl
    simp only [Nat.sub_zero] at hq
    have hlt : i < es.length := (List.getElem?_eq_some_iff.1 hq).1
    subst hqx
    have hmod : ((es.map (toE enc)).modify i fun en => { en with key := enc q.1 }) = es.map (toE enc) := by
      apply List.ext_getElem?
      intro j
      rw [List.getElem?_modify]
      split
      · rename_i hji
        subst hji
        simp [hq, toE]
      · simp
    simp [Instr.keyThatStays, h.bits, set_map _ hw, hmod, goInt, hq, toE]
/-- The map behind 'entryStore'. -/
def putE (st : Nat) (v : Value) (es : List (α × Value × Nat)) : List (α × Value × Nat) := match es.findIdx? (fun p => p.2.2 == st) with
  | some i => es.modify i (fun p => (p.1, v, p.2.2))
  | none => es
theorem run_entryStore {t : TypeId} {r : Nat} {es : List (α × Value × Nat)} {cl st : Nat} {v : Value} {w : World} (hw : w.heap[r]? = some (.map (es.map (toE enc)).toArray cl)) (hst : ∃ p ∈ es, p.2.2 = st) :
    (Instr.entryStore t (.map (some r)) (.int .i64 (st : Int)) v).run P w = .ok () { w with heap := w.heap.setIfInBounds r (.map ((putE st v es).map (toE enc)).toArray cl) } := by
  have hf : ((es.map (toE enc)).toArray.findIdx? fun en => ((en.born : Int) == (st : Int))) = es.findIdx? (fun p => p.2.2 == st) := by
    rw [List.findIdx?_toArray, List.findIdx?_map]
    congr 1
    funext p
    show decide ((p.2.2 : Int) = (st : Int)) = decide (p.2.2 = st)
    simp
    omega
  simp only [Instr.entryStore, Sem.run_bind, run_getObj_map w _ _ _ hw, Result.andThen_ok, asInt, asIntOf, Sem.run_pure, hf]
  unfold putE
  cases hi : es.findIdx? (fun p => p.2.2 == st) with
  | none =>
    exfalso
    rw [List.findIdx?_eq_none_iff] at hi
    obtain ⟨p, hp, hps⟩ := hst
    have := hi p hp
    simp [hps] at this
  | some i =>
    simp only [set_map _ hw]
    congr 4
    apply Array.toList_inj.1
    simp only [Array.toList_modify, List.toList_toArray]
    apply List.ext_getElem?
    intro j
    simp only [List.getElem?_modify, List.getElem?_map]
    cases es[j]? <;> simp <;> split <;> simp [toE]
end
end Go.Wm
namespace Go.Wm
variable [Dfr]
def del (k : PH) (r : Nat) : PH := fun i => if i = r then none else k i
theorem del_le (k : PH) (r : Nat) : Le (del k r) k := fun b o h => by
  unfold del at h
  split at h
  · cases h
  · exact h
section
variable {P : Program} {F : Fr} {n : Nat} {Q : Exit → Act → World → Prop} {e : Env} {k : PH}
theorem St.del {r : Nat} {w : World} (h : St F k w) (hr : F.w0.heap.size ≤ r) : St F (del k r) w :=
  h.weak (del_le k r) fun b hb hm => by
    have : b ≠ r := by omega
    simp only [Wm.del, this, if_false]
    exact h.keep b hb hm
/-- The block r is ob, and nothing is known of it. -/
def HasAt (r : Nat) (ob : Obj) (k : PH) (w : World) : Prop := w.heap[r]? = some ob ∧ k r = none
theorem hasAt_stays (r : Nat) (ob : Obj) (k : PH) (w : World) (k' : PH) (w' : World) (hb : RowKit.Below w.heap.size w w') (ha : Agr w.heap.size k k') (h : HasAt r ob k w) : HasAt r ob k' w' := by
  have hr := (Array.getElem?_eq_some_iff.1 h.1).1
  exact ⟨by rw [hb.block r hr]; exact h.1, (ha r hr).trans h.2⟩
/-- A region that draws, one of whose operations turns the block r of the call's own from o0 to o1, and whose last operation waits for the others. -/
theorem cg_eff {id : Nat} {l : List Oper} {last : Oper} [hm : Mixed P] (r : Nat) (o0 o1 : Obj) (hl : l = l.dropLast ++ [last]) (hok : okAny n l = true) (hlast : lastOk l = true) (hdst : (l.dropLast.all fun o => o.dst.isSome) = true) (hdet : det e = true) (hk : k r = some o0) (hr : F.w0.heap.size ≤ r)
    (h : WE P F n l.toArray (del k r) (HasAt r o0) (fun _ => HasAt r o1) (fun _ e' => det e' = true ∧ RG P F n l.toArray Q [last] e' (upd k r o1)) 0 none l.dropLast e) : CG P F n Q (.region id l.toArray true) e k := by
  intro a w ha hs
  generalize l.dropLast = A at hl hdst h
  subst hl
  refine region_eff (F := F) hm.eq hok hlast (fun o ho => (List.all_eq_true.1 hdst) o ho) (hasAt_stays r o0) (fun _ => hasAt_stays r o1) (fun t q hg => by obtain ⟨v, rfl⟩ := det_get hdet hg; trivial) (ha.heap hdet) (hs.del hr) (k := Wm.del k r) ⟨hs.sub r _ hk, by simp [Wm.del]⟩ ?_
  revert h
  have mono : ∀ (l : List Oper) (i : Nat) (d : Option Nat) (e : Env), WE P F n (A ++ [last]).toArray (Wm.del k r) (HasAt r o0) (fun _ => HasAt r o1) (fun _ e' => det e' = true ∧ RG P F n (A ++ [last]).toArray Q [last] e' (upd k r o1)) i d l e → (∀ x, d = some x → x < A.length) → i + l.length = A.length →
      WE P F n (A ++ [last]).toArray (Wm.del k r) (HasAt r o0) (fun _ => HasAt r o1) (fun j e' => ∀ k' a' w', Le (Wm.del k r) k' → Ag n e' k' a' → St F k' w' → (∀ o d, (A ++ [last])[j]? = some o → o.dst = some d → HasAt r o1 k' w') → wpList P (A ++ [last]).toArray Q [last] a' w') i d l e := by
    intro l
    induction l with
    | nil =>
      rintro i d e ⟨j, hd, hde, hRG⟩ hx _
      refine ⟨j, hd, fun k' a' w' hle hag hst hX => hRG a' w' (hag.heap hde) ?_⟩
      have hj := hx j hd
      have hoj : A[j]? = some A[j] := List.getElem?_eq_getElem hj
      have hdj := (List.all_eq_true.1 hdst) A[j] (List.getElem_mem hj)
      obtain ⟨dd, hdd⟩ := Option.isSome_iff_exists.1 hdj
      have hw := (hX A[j] dd (by rw [List.getElem?_append_left hj]; exact hoj) hdd).1
      refine ⟨hst.os, hst.tape, hst.output, hst.size, hst.old, fun b ob hb => ?_, fun b hb hmu => ?_⟩
      · by_cases hbr : b = r
        · subst hbr
          rw [upd_same] at hb
          cases hb
          exact hw
        · rw [upd_other hbr] at hb
          exact hst.sub b ob (hle b ob (by simp only [Wm.del, hbr, if_false]; exact hb))
      · have : b ≠ r := by omega
        rw [upd_other this]
        exact hs.keep b hb hmu
    | cons o l ih =>
      intro i d e h hx hlen
      simp only [List.length_cons] at hlen
      rcases h with ⟨p, h0, h1, h⟩ | ⟨hd, p, h0, h⟩
      · exact .inl ⟨p, h0, h1, ih _ _ _ h hx (by omega)⟩
      · exact .inr ⟨hd, p, h0, ih _ _ _ h (fun x hx => by cases hx; omega) (by omega)⟩
  exact fun h => mono A 0 none e h (fun x hx => by cases hx) (by omega)

section
variable {kt : TypeId} {α : Type} [DecidableEq α] {enc : α → Value} {ops : Array Oper} {o : Oper} {rest : List Oper}
/-- 'mapEntry' as the one operation that turns the map. -/
theorem eff_entry {kr : PH} {t et : TypeId} {sz bs : Nat} {z : Value} {m key : Operand} {r : Nat} {x : α} {es : List (α × Value × Nat)} {cl : Nat} [ht : TyU P t (.map kt et)] [hz : TyI P et sz bs z] [h : KeyOk P kt enc] (hg : o.guard = none) (hop : o.op = .mapEntry t m key) (hmv : opv e m = some (.map (some r))) (hkv : opv e key = some (enc x))
    (hr : F.w0.heap.size ≤ r) : EffI P F n ops (HasAt r (.map (es.map (toE enc)).toArray cl)) (fun _ => HasAt r (.map (((entE x z es cl).1).map (toE enc)).toArray (entE x z es cl).2.1)) o e (del kr r) (.is (.tuple #[atE x z es, .int .i64 ((entE x z es cl).2.2 : Nat)])) := by
  refine ⟨trivial, hg, fun a w k1 hk hs ⟨hx, hkr⟩ hsz hl => ?_⟩
  have hev := evs_of hl
  rw [hop] at hev
  have hrun : (execOp a.eval o).run P w = .ok (.value (.tuple #[atE x z es, .int .i64 ((entE x z es cl).2.2 : Nat)])) { w with heap := w.heap.setIfInBounds r (.map (((entE x z es cl).1).map (toE enc)).toArray (entE x z es cl).2.1) } := by
    have := run_entry (P := P) (t := t) hx x (z := z)
    simp [execOp, hop, hev m (by simp [Op.operands]) _ hmv, hev key (by simp [Op.operands]) _ hkv, this]
  refine (ex_value hrun).mono ?_
  rintro u u' ⟨rfl, rfl⟩
  have hb : (w.heap.setIfInBounds r (Obj.map (((entE x z es cl).1).map (toE enc)).toArray (entE x z es cl).2.1))[r]? = some (.map (((entE x z es cl).1).map (toE enc)).toArray (entE x z es cl).2.1) := heap_setObj hx
  have hst := hs.turn (w' := { w with heap := w.heap.setIfInBounds r (.map (((entE x z es cl).1).map (toE enc)).toArray (entE x z es cl).2.1) }) (.inl hr) rfl rfl rfl (by simp) hb (fun i hi _ => by simp [Array.getElem?_setIfInBounds, Ne.symm hi])
  refine ⟨k1, Le.refl _, hst.weak ((Le.refl k1).upd hkr) hs.keep, by simp, ⟨hb, hkr⟩, rfl⟩
/-- 'entryStore'. -/
theorem r_entryStore {t : TypeId} {m s y : Operand} {r st : Nat} {v : Value} {es : List (α × Value × Nat)} {cl : Nat} (hd : o.dst = none) (hdet : det e = true) (hg : o.guard = none) (hop : o.op = .entryStore t m s y) (hmv : opv e m = some (.map (some r))) (hsv : opv e s = some (.int .i64 (st : Int))) (hyv : opv e y = some v)
    (hk : k r = some (.map (es.map (toE enc)).toArray cl)) (hst : ∃ p ∈ es, p.2.2 = st) (hr : F.w0.heap.size ≤ r) (h : RG P F n ops Q rest e (upd k r (.map ((putE st v es).map (toE enc)).toArray cl))) : RG P F n ops Q (o :: rest) e k := by
  intro a w ha hs
  unfold wpList
  rw [if_pos (by simp [Region.wanted, hg])]
  have hev := evs_of (ops := ops) (o := o) (ag_looks ha)
  rw [hop] at hev
  have hw := hs.sub _ _ hk
  have hrun := run_entryStore (P := P) (t := t) (v := v) hw hst
  have hx : (execOp a.eval o).run P w = .ok .skip { w with heap := w.heap.setIfInBounds r (.map ((putE st v es).map (toE enc)).toArray cl) } := by
    simp [execOp, hop, hev m (by simp [Op.operands]) _ hmv, hev s (by simp [Op.operands]) _ hsv, hev y (by simp [Op.operands]) _ hyv, hrun]
  refine .inl (ex_skip hx _ _ ?_)
  rintro u w' ⟨rfl, rfl⟩
  rw [hd]
  exact h _ _ (ha.heap hdet) (hs.turn (.inl hr) rfl rfl rfl (by simp) (heap_setObj hw) fun i hi _ => by simp [Array.getElem?_setIfInBounds, Ne.symm hi])
end
end
end Go.Wm
namespace Go.Wm
variable [Dfr]
def plainD : TypeDesc → Bool
  | .int _ => true
  | .bool => true
  | .string => true
  | _ => false
section
variable {P : Program}
theorem chk_plain {t : TypeId} {d : TypeDesc} (h : P.underlying t = some d) (hd : plainD d = true) (em : Bool) (m : Nat) (v : Value) (w : World) : (Instr.checkKey em (m + 1) t v).run P w = .ok () w := by
  cases d <;> simp [plainD] at hd <;> simp [Instr.checkKey, run_underlying h]
end
end Go.Wm
namespace Go.Wm
variable [Dfr]
section
variable {P : Program} {F : Fr} {n : Nat} {Q : Exit → Act → World → Prop} {e : Env} {k : PH} {kt : TypeId} {α : Type} [DecidableEq α] {enc : α → Value} {ops : Array Oper} {o : Oper} {rest : List Oper}
/-- The map behind 'm[x] = v'. -/
def updE (x : α) (v : Value) (es : List (α × Value × Nat)) (cl : Nat) : List (α × Value × Nat) × Nat :=
  match lookE x es 0 with
  | some (i, _) => (es.modify i (fun p => (p.1, v, p.2.2)), cl)
  | none => (es ++ [(x, v, cl)], cl + 1)
theorem run_update [h : KeyOk P kt enc] {t et : TypeId} [ht : TyU P t (.map kt et)] {r : Nat} {es : List (α × Value × Nat)} {cl : Nat} {w : World} (hw : w.heap[r]? = some (.map (es.map (toE enc)).toArray cl)) (x : α) (v : Value) :
    (Instr.mapUpdate t (.map (some r)) (enc x) v).run P w = .ok () { w with heap := w.heap.setIfInBounds r (.map (((updE x v es cl).1).map (toE enc)).toArray (updE x v es cl).2) } := by
  simp only [Instr.mapUpdate, Sem.run_bind, run_underlying ht.eq, Result.andThen_ok, run_getObj_map w _ _ _ hw, h.chk, run_find, List.toList_toArray]
  unfold updE
  cases hl : lookE x es 0 with
  | none =>
    simp [set_map _ hw, toE]
  | some p =>
    obtain ⟨i, u⟩ := p
    obtain ⟨_, q, hq, hqx, hqv⟩ := lookE_mem hl
    simp only [Nat.sub_zero] at hq
    have hlt : i < es.length := (List.getElem?_eq_some_iff.1 hq).1
    subst hqx
    have hmod : ((es.map (toE enc)).modify i fun en => { en with key := enc q.1, val := v }) = (es.modify i (fun p => (p.1, v, p.2.2))).map (toE enc) := by
      apply List.ext_getElem?
      intro j
      rw [List.getElem?_modify, List.getElem?_map, List.getElem?_map, List.getElem?_modify]
      by_cases hji : i = j
      · subst hji
        simp [hq, toE]
      · simp [hji]
    simp [Instr.keyThatStays, h.bits, set_map _ hw, hmod, hq, toE]
theorem r_update {t et : TypeId} {m key y : Operand} {r : Nat} {x : α} {v : Value} {es : List (α × Value × Nat)} {cl : Nat} [h : KeyOk P kt enc] [ht : TyU P t (.map kt et)] (hd : o.dst = none) (hdet : det e = true) (hg : o.guard = none) (hop : o.op = .mapUpdate t m key y) (hmv : opv e m = some (.map (some r))) (hkv : opv e key = some (enc x)) (hyv : opv e y = some v)
    (hk : k r = some (.map (es.map (toE enc)).toArray cl)) (hr : F.w0.heap.size ≤ r) (hh : RG P F n ops Q rest e (upd k r (.map (((updE x v es cl).1).map (toE enc)).toArray (updE x v es cl).2))) : RG P F n ops Q (o :: rest) e k := by
  intro a w ha hs
  unfold wpList
  rw [if_pos (by simp [Region.wanted, hg])]
  have hev := evs_of (ops := ops) (o := o) (ag_looks ha)
  rw [hop] at hev
  have hw := hs.sub _ _ hk
  have hrun := run_update (P := P) (t := t) hw x v
  have hx : (execOp a.eval o).run P w = .ok .skip { w with heap := w.heap.setIfInBounds r (.map (((updE x v es cl).1).map (toE enc)).toArray (updE x v es cl).2) } := by
    simp [execOp, hop, hev m (by simp [Op.operands]) _ hmv, hev key (by simp [Op.operands]) _ hkv, hev y (by simp [Op.operands]) _ hyv, hrun]
  refine .inl (ex_skip hx _ _ ?_)
  rintro u w' ⟨rfl, rfl⟩
  rw [hd]
  exact hh _ _ (ha.heap hdet) (hs.turn (.inl hr) rfl rfl rfl (by simp) (heap_setObj hw) fun i hi _ => by simp [Array.getElem?_setIfInBounds, Ne.symm hi])
end
end Go.Wm

/-
  From the form's own reading of arguments to this seat's reading of memory, and the last step of a law's row. Conditions: none.
-/
namespace Go.Wm
variable [Dfr]
open Go.RowKit Go.ChangeShapes Go.WideShapes

def heapOf (w : World) : PH := fun b => w.heap[b]?
theorem sub_heapOf (w : World) : Sub (heapOf w) w := fun _ _ h => h

/-- Whatever reads as a value of type t reads by T. -/
class Rd (P : Program) (t : TypeId) {α : Type} (T : Ty α) : Prop where
  one : P.cellsOf t = T.sz
  rd : ∀ {H : Type} {enc : TypeId × Value → H} {W : World} {base : Nat} {held : Bool} {n : Nat} {cs : List Value} {y : DataW H × List MemPlace}, DataW.trod enc P W base (fun _ => true) held n t cs = some y → ∃ x, T.rep (heapOf W) cs x

section
variable {P : Program}
theorem wf_I64 {n : Int} (h : (Lit.int .i64 n).wf = true) : I64 n := by
  simp [Lit.wf, IntKind.min, IntKind.max, IntKind.signed, IntKind.bits] at h
  exact h
theorem cells_of_read {w : World} {base : Nat} {a : Addr} {n : Nat} {cs : List Value} (h : w.cells? base a n = some cs) (hpos : 0 < n) : a.spot = none ∧ ∀ off, (∀ i, i < n → w.cell? (a.add i) = w.cell? ⟨a.block, off + i, none⟩) → Cells (heapOf w) a.block off cs := by
  obtain ⟨_, hl, hc⟩ := World.cells?_some h
  have h0 := hc 0 hpos
  have hsome : (cs[0]?).isSome := by simp; omega
  obtain ⟨v, hv⟩ := Option.isSome_iff_exists.1 hsome
  rw [hv] at h0
  have hsp : a.spot = none := by simpa [Addr.add] using World.cell?_spot h0
  refine ⟨hsp, fun off ho => ?_⟩
  have h00 := ho 0 hpos
  rw [h0] at h00
  simp only [World.cell?] at h00
  cases hb : w.heap[a.block]? with
  | none => simp [hb] at h00
  | some ob =>
    cases ob <;> simp [hb] at h00
    rename_i c et fr
    refine ⟨c, et, fr, hb, fun i u hu => ?_⟩
    have hi : i < n := by rw [← hl]; exact (List.getElem?_eq_some_iff.1 hu).1
    have h1 := ho i hi
    rw [hc i hi, hu] at h1
    simp only [World.cell?, hb, Option.isSome_none, Bool.false_eq_true, if_false] at h1
    exact h1.symm

/-! ### the end of a law's row -/
theorem trodAll_below {H : Type} {enc : TypeId × Value → H} {W W' : World} (hl : laidOutB P = true) (hb : Below W.heap.size W W') : ∀ (ts : List TypeId) (vs : List Value) (ds : List (DataW H)) (ps : List MemPlace), (ts.all fun t => P.readableRec t && decide (t < P.types.size)) = true →
    DataW.TrodAll enc P W 0 (fun _ => true) true ts vs ds ps → (∀ x ∈ ps, x.block < W.heap.size) → DataW.TrodAll enc P W' 0 (fun b => decide (b < W.heap.size)) true ts vs ds ps
  | [], vs, ds, ps, _, h, _ => by
    obtain ⟨rfl, rfl, rfl⟩ := trodAll_nil h
    exact trodAll_mk0
  | t :: ts, vs, ds, ps, hr, h, hlt => by
    obtain ⟨v, vs', d, ds', p, q, rfl, rfl, rfl, h0, h1⟩ := trodAll_cons h
    simp only [List.all_cons, Bool.and_eq_true, decide_eq_true_eq] at hr
    exact trodAll_cons_mk (Below.trod hl hr.1.1 hr.1.2 h0 hb (fun x hx => hlt x (by simp [hx]))) (trodAll_below hl hb ts vs' ds' q hr.2 h1 (fun x hx => hlt x (by simp [hx])))
end
end Go.Wm

/-
  A scope through which the run jumps back to one label: what holds at the label, and a measure that each jump lowers. Conditions: none.
-/
namespace Go.Wm
variable [Dfr]
open Go.RowKit

section
variable {P : Program} {F : Fr} {n : Nat} {Q : Exit → Act → World → Prop} {e : Env} {k : PH}
/-- What holds at a jump that may have any measure. -/
def AtAny {ι : Type} (F : Fr) (n : Nat) (I : ι → Env → PH → Prop) (a : Act) (w : World) : Prop := ∃ j e k, I j e k ∧ Ag n e k a ∧ St F k w
def AtLess {ι : Type} (F : Fr) (n : Nat) (I : ι → Env → PH → Prop) (μ : ι → Nat) (m : Nat) (a : Act) (w : World) : Prop := ∃ j e k, I j e k ∧ μ j < m ∧ Ag n e k a ∧ St F k w

theorem cg_scope {ι : Type} (I : ι → Env → PH → Prop) (μ : ι → Nat) {c : Code} (l : Nat) (tail : Code) (hf : findLabel c l = some (.seq .skip tail))
    (pass : ∀ i e k, I i e k → CG P F n (Exit.jump l (AtLess F n I μ (μ i)) Q) tail e k)
    (first : (∀ i e0 e k, I i e0 k → EnvLe e0 e → CG P F n (Exit.jump l (AtAny F n I) Q) tail e k) → CG P F n (Exit.jump l (AtAny F n I) Q) c e k) : CG P F n Q (.scope c) e k := by
  have weaken : ∀ i e0 e k, I i e0 k → EnvLe e0 e → CG P F n (Exit.jump l (AtAny F n I) Q) tail e k := by
    intro i e0 e k hI hle a w ha hs
    refine wp_mono (pass i e0 k hI a w (ha.le hle) hs) ?_
    intro ex a' w' h
    cases ex with
    | goto l' =>
      obtain ⟨h1, j, e', k', h2, _, h3, h4⟩ := h
      exact ⟨h1, j, e', k', h2, h3, h4⟩
    | _ => exact h
  intro a w ha hs b ks cs
  have hg : gotoIn l (.inScope c :: ks) = some (.code (.seq .skip tail) :: .inScope c :: ks) := by simp [gotoIn, hf]
  have key : ∀ m i e k a w, μ i = m → I i e k → Ag n e k a → St F k w →
      ∃ ex a' w', Q ex a' w' ∧ Arrives P (lone (b.at a (.code (.seq .skip tail) :: .inScope c :: ks)) cs w) b ks cs ex a' w' := by
    intro m
    induction m using Nat.strongRecOn with
    | _ m ih =>
      intro i e k a w hm hI ha hs
      have hp : (Code.seq .skip tail).wp P (Exit.jump l (AtLess F n I μ (μ i)) Q) a w := wp_seq (wp_skip (pass i e k hI a w ha hs))
      obtain ⟨ex, a₁, w₁, hq, harr⟩ := hp b (.inScope c :: ks) cs
      cases ex with
      | normal => exact ⟨.normal, a₁, w₁, hq, Steps.trans harr (.one step_inScope)⟩
      | exit id => exact ⟨.exit id, a₁, w₁, hq, fun k' hk => harr k' (by simp [exitTo, hk])⟩
      | goto l' =>
        obtain ⟨rfl, j, e', k', hI', hlt, ha', hs'⟩ := hq
        obtain ⟨e₂, a₂, w₂, hq₂, harr₂⟩ := ih (μ j) (hm ▸ hlt) j e' k' a₁ w₁ rfl hI' ha' hs'
        exact ⟨e₂, a₂, w₂, hq₂, .of_steps (harr _ hg) harr₂⟩
      | ret => exact ⟨_, a₁, w₁, hq, harr⟩
      | panic ch => exact ⟨_, a₁, w₁, hq, harr⟩
      | outgrown => exact ⟨_, a₁, w₁, hq, harr⟩
  obtain ⟨ex, a₁, w₁, hq, harr⟩ := first weaken a w ha hs b (.inScope c :: ks) cs
  cases ex with
  | normal => exact ⟨.normal, a₁, w₁, hq, .head step_scope (Steps.trans harr (.one step_inScope))⟩
  | exit id => exact ⟨.exit id, a₁, w₁, hq, fun k' hk => .head step_scope (harr k' (by simp [exitTo, hk]))⟩
  | goto l' =>
    obtain ⟨rfl, j, e', k', hI', ha', hs'⟩ := hq
    obtain ⟨e₂, a₂, w₂, hq₂, harr₂⟩ := key _ j e' k' a₁ w₁ rfl hI' ha' hs'
    exact ⟨e₂, a₂, w₂, hq₂, .of_steps (.head step_scope (harr _ hg)) harr₂⟩
  | ret => exact ⟨_, a₁, w₁, hq, .of_steps (.one step_scope) harr⟩
  | panic ch => exact ⟨_, a₁, w₁, hq, .of_steps (.one step_scope) harr⟩
  | outgrown => exact ⟨_, a₁, w₁, hq, .of_steps (.one step_scope) harr⟩

theorem eg_jump_ret {l : Nat} {J : Act → World → Prop} (h : EG F n (Q .ret) e k) : EG F n (Exit.jump l J Q .ret) e k := h
theorem eg_jump_goto {ι : Type} {I : ι → Env → PH → Prop} {μ : ι → Nat} {m l : Nat} (j : ι) (e' : Env) (hI : I j e' k) (hm : μ j < m) (hle : EnvLe e' e) : EG F n (Exit.jump l (AtLess F n I μ m) Q (.goto l)) e k :=
  fun _ _ ha hs => ⟨rfl, j, e', k, hI, hm, ha.le hle, hs⟩
end
end Go.Wm

/-
  A region that draws its order and appends to a row of the call's own: one walk in the text's order. Conditions: the last operation waits for all others.
-/
namespace Go.Wm
variable [Dfr]
open Go.RowKit

/-- All of a world's memory. -/
abbrev wPH (w : World) : PH := fun b => w.heap[b]?

section
variable {P : Program} {F : Fr} {n : Nat} {ops : Array Oper} {Q : Exit → Act → World → Prop} {rest : List Oper} {o : Oper} {e : Env} {k : PH}

theorem app_world {N : Nat} {t ty et : TypeId} {sz bs : Nat} {z : Value} {v : Value} {m c j : Nat} {bx ox : Nat} {xs news : List Value} [ht : TyU P t (.slice et)] [hi : TyI P et sz bs z] (w : World)
    (hrow : Row N (wPH w) et sz v m xs) (hN : N ≤ w.heap.size) (hnews : ∀ q u, news[q]? = some u → w.cell? ((⟨bx, ox, none⟩ : Addr).add q) = some u) (hl : news.length = j * sz) (h1 : ∀ u ∈ news, u.oneCell' = true) (hz : Nat.beq z.cells.size sz = true) (hpos : Nat.blt 0 sz = true) (hm : m + j ≤ maxLen) (hby : (m + j) * bs ≤ 140737488355328) :
    ∃ v' w', (Builtin.append_ #[t, t] ty #[v, .slice (some ⟨bx, ox, none⟩) j c]).run P w = .ok v' w' ∧ Row N (wPH w') et sz v' (m + j) (xs ++ news) ∧ (w'.os = w.os ∧ w'.tape = w.tape ∧ w'.output = w.output ∧ w.heap.size ≤ w'.heap.size) ∧
      (∀ i, i < w.heap.size → v.ownBlock ≠ some i → w'.heap[i]? = w.heap[i]?) ∧ ∀ g, v'.ownBlock = some g → v.ownBlock = some g ∨ w.heap.size ≤ g := by
  obtain ⟨i, hi1, hi2, hi3, hi4⟩ := hi.eq
  subst hi2
  subst hi3
  have hzs : z.cells.size = i.size := Nat.eq_of_beq_eq_true hz
  have hpos' : 0 < i.size := by simpa [Nat.blt_eq] using hpos
  obtain ⟨hxl, hcase⟩ := hrow
  have h63 : maxLen = 9223372036854775807 := rfl
  have hlen : (xs ++ news).length = (m + j) * i.size := by rw [List.length_append, hxl, hl, Nat.add_mul]
  rcases hcase with ⟨rfl, rfl⟩ | ⟨g, cap, cur, rfl, hgN, hgw, hmc, hcm, hcs, htake⟩
  · have hxs : xs = [] := by simpa using hxl
    subst hxs
    by_cases hj : j = 0
    · subst hj
      have hn0 : news = [] := by simpa using hl
      subst hn0
      have hr : (Builtin.append_ #[t, t] ty #[.slice none 0 0, .slice (some ⟨bx, ox, none⟩) 0 c]).run P w = .ok (.slice none 0 0) w := by
        have := run_firstCells_some (P := P) w i.size 0 ⟨bx, ox, none⟩ 0 c [] (by simp) (by simp)
        simp [Builtin.append_, run_underlying ht.eq, run_size hi1, Builtin.lenOf, this]
      exact ⟨_, _, hr, ⟨by simp, .inl ⟨rfl, rfl⟩⟩, ⟨rfl, rfl, rfl, Nat.le_refl _⟩, fun _ _ _ => rfl, fun g hg => by simp [Value.ownBlock] at hg⟩
    · have hr := run_append_nil (P := P) w t ty et i z ht.eq hi1 hi4 ⟨bx, ox, none⟩ j c news hl hnews (by omega) (by omega) (by simp at hby; omega)
      have hcap := grownCap_bd w j 0 et (by omega)
      have hb : Below w.heap.size w (w.drew.alloc (.cells (news.toArray ++ Builtin.zeroCells z.cells (grownCap w j 0 et - j)) et)) := (Below.refl _ w).drew.alloc (Nat.le_refl _) _
      refine ⟨_, _, hr, ⟨by simpa using hl, .inr ⟨w.heap.size, _, (news.toArray ++ Builtin.zeroCells z.cells (grownCap w j 0 et - j)), by simp, hN, ?_, by omega, hcap.2, ?_, ?_⟩⟩, ⟨hb.os, hb.tape, hb.output, hb.size⟩, fun i hi _ => hb.block i hi, fun g hg => .inr ?_⟩
      · show (w.heap.push _)[w.heap.size]? = _
        simp
      · rw [Array.size_append, size_zeroCells, hzs, List.size_toArray, hl, ← Nat.add_mul]
        congr 1
        omega
      · simp [← hl]
      · simp [Value.ownBlock] at hg; omega
  · have hgw' : w.heap[g]? = some (.cells cur et (0, 0)) := hgw
    by_cases hroom : m + j ≤ cap
    · have hfit : m * i.size + news.length ≤ cur.size := by rw [hl, hcs, ← Nat.add_mul]; exact Nat.mul_le_mul_right _ hroom
      have hr := run_append_room (P := P) w t ty et i ht.eq hi1 g m cap cur hgw' ⟨bx, ox, none⟩ j c news hl hnews h1 hroom hfit
      refine ⟨_, _, hr, ⟨hlen, .inr ⟨g, cap, _, rfl, hgN, setRow_heap w g cur _ et _ hgw', hroom, hcm, ?_, ?_⟩⟩, ⟨rfl, rfl, rfl, by simp [World.setRow]⟩, fun i hi hne => setRow_other w g i _ (fun h => hne (by subst h; rfl)), fun g' hg => .inl hg⟩
      · have : cur.toList.length = cap * i.size := by simpa using hcs
        simp only [List.size_toArray, List.length_append, List.length_take, List.length_drop, this]
        rw [Array.length_toList] at this
        omega
      · have h3 : (cur.toList.take (m * i.size)) = xs := htake
        rw [h3, show (m + j) * i.size = (xs ++ news).length from hlen.symm]
        exact List.take_left' rfl
    · have hold : ∀ q u, xs[q]? = some u → w.cell? ((⟨g, 0, none⟩ : Addr).add q) = some u := by
        intro q u hq
        rw [addr_add]
        simp only [World.cell?, hgw', Option.isSome_none, Bool.false_eq_true, if_false, Nat.zero_add]
        rw [← htake, List.getElem?_take] at hq
        split at hq
        · simpa using hq
        · cases hq
      have hfit : Builtin.nextslicecap (m + j) cap * i.bytes ≤ 281474976710656 := growslice_fits (by omega) hby
      have hr := run_append_grow (P := P) w t ty et i z ht.eq hi1 hi4 ⟨g, 0, none⟩ m cap xs hxl hold ⟨bx, ox, none⟩ j c news hl hnews (by omega) (by omega) hfit
      have hcap := grownCap_bd w (m + j) cap et hm
      have hb : Below w.heap.size w (w.drew.alloc (.cells (xs.toArray ++ news.toArray ++ Builtin.zeroCells z.cells (grownCap w (m + j) cap et - (m + j))) et)) := (Below.refl _ w).drew.alloc (Nat.le_refl _) _
      refine ⟨_, _, hr, ⟨hlen, .inr ⟨w.heap.size, _, (xs.toArray ++ news.toArray ++ Builtin.zeroCells z.cells (grownCap w (m + j) cap et - (m + j))), by simp, hN, ?_, hcap.1, hcap.2, ?_, ?_⟩⟩, ⟨hb.os, hb.tape, hb.output, hb.size⟩, fun i hi _ => hb.block i hi, fun g hg => .inr ?_⟩
      · show (w.heap.push _)[w.heap.size]? = _
        simp
      · rw [Array.size_append, size_zeroCells, hzs, Array.size_append, List.size_toArray, List.size_toArray, hl, hxl, ← Nat.add_mul, ← Nat.add_mul]
        congr 1
        omega
      · rw [show (m + j) * i.size = (xs ++ news).length from hlen.symm]
        simp only [Array.toList_append, List.toList_toArray]
        exact List.take_left' rfl
      · simp [Value.ownBlock] at hg; omega

/-- What is known but of v's own block. -/
def delV (k : PH) (v : Value) : PH := fun b => if v.ownBlock = some b then none else k b
theorem delV_le (k : PH) (v : Value) : Le (delV k v) k := fun b o h => by
  unfold delV at h
  split at h
  · cases h
  · exact h
theorem delV_of {k : PH} {v : Value} {b : Nat} (h : v.ownBlock ≠ some b) : delV k v b = k b := by simp [delV, h]
theorem delV_own {k : PH} {v : Value} {b : Nat} (h : v.ownBlock = some b) : delV k v b = none := by simp [delV, h]
theorem Cells.delV {k : PH} {v : Value} {b off : Nat} {vs : List Value} (h : Cells k b off vs) (hne : v.ownBlock ≠ some b) : Cells (delV k v) b off vs := by
  obtain ⟨c, et, fr, h1, h2⟩ := h
  exact ⟨c, et, fr, by rw [delV_of hne]; exact h1, h2⟩
theorem le_delV {h k : PH} {v : Value} (hle : Le h k) (ha : Apart h v) : Le h (Wm.delV k v) := fun b o hb => by
  rw [delV_of (fun he => by rw [ha b he] at hb; cases hb)]
  exact hle b o hb
/-- Nothing is known of v's own block, which is there. -/
def LackV (v : Value) (k : PH) (w : World) : Prop := ∀ g, v.ownBlock = some g → k g = none ∧ g < w.heap.size
theorem Row.block {N : Nat} {k : PH} {et sz : Nat} {v : Value} {m : Nat} {xs : List Value} (h : Row N k et sz v m xs) {g : Nat} (hg : v.ownBlock = some g) : N ≤ g ∧ ∃ ob, k g = some ob := by
  rcases h.2 with ⟨rfl, _⟩ | ⟨g', cap, cur, rfl, h1, h2, _⟩
  · simp [Value.ownBlock] at hg
  · simp [Value.ownBlock] at hg; subst hg; exact ⟨h1, _, h2⟩
theorem Row.at {N : Nat} {k k' : PH} {et sz : Nat} {v : Value} {m : Nat} {xs : List Value} (h : Row N k et sz v m xs) (hk : ∀ g, v.ownBlock = some g → k' g = k g) : Row N k' et sz v m xs := by
  refine ⟨h.1, ?_⟩
  rcases h.2 with h' | ⟨g', cap, cur, rfl, h1, h2, h3⟩
  · exact .inl h'
  · exact .inr ⟨g', cap, cur, rfl, h1, by rw [hk g' (by simp [Value.ownBlock])]; exact h2, h3⟩

/-- v' is the row, in a world; nothing is known of v's own block. -/
def RowAt (N et sz : Nat) (v v' : Value) (m : Nat) (xs : List Value) (k : PH) (w : World) : Prop := Row N (wPH w) et sz v' m xs ∧ LackV v k w
theorem rowAt_stays {N et sz : Nat} {v v' : Value} {m : Nat} {xs : List Value} (k : PH) (w : World) (k' : PH) (w' : World) (hb : RowKit.Below w.heap.size w w') (ha : Agr w.heap.size k k') (h : RowAt N et sz v v' m xs k w) : RowAt N et sz v v' m xs k' w' :=
  ⟨h.1.at fun g hg => by
    obtain ⟨_, ob, ho⟩ := h.1.block hg
    exact hb.block g (Array.getElem?_eq_some_iff.1 ho).1, fun g hg => ⟨(ha g (h.2 g hg).2).trans (h.2 g hg).1, Nat.lt_of_lt_of_le (h.2 g hg).2 hb.size⟩⟩

/-- The append, as the one operation that turns the row. -/
theorem we_app {t et : TypeId} {sz bs : Nat} {z : Value} {x : Operand} {ty : Nat} {p : PV} {v : Value} {m j : Nat} {xs news : List Value} {K : Nat → Env → Prop} {i d : Nat} {r : List Oper} [ht : TyU P t (.slice et)] [hi : TyI P et sz bs z]
    (hd : o.dst = some d) (hg : o.guard = none) (hop : o.op = .call { callee := .builtin .append, args := #[x, .tmp ty], argTypes := #[t, t] }) (hx : opv e x = some v) (hy : get e ty = some p) (hyp : ∀ k1 u, Le (delV k v) k1 → p.holds k1 u → ∃ bx ox c, u = .slice (some ⟨bx, ox, none⟩) j c ∧ Cells k1 bx ox news)
    (hl : news.length = j * sz) (h1 : ∀ u ∈ news, u.oneCell' = true) (hz : Nat.beq z.cells.size sz = true) (hpos : Nat.blt 0 sz = true) (hm : m + j ≤ maxLen) (hby : (m + j) * bs ≤ 140737488355328)
    (h : WE P F n ops (delV k v) (RowAt F.w0.heap.size et sz v v m xs) (fun v' k1 w => RowAt F.w0.heap.size et sz v v' (m + j) (xs ++ news) k1 w ∧ ∀ g, v'.ownBlock = some g → v.ownBlock = some g ∨ k g = none) K (i + 1) (some i) r ((d, .such fun _ _ => True) :: e)) :
    WE P F n ops (delV k v) (RowAt F.w0.heap.size et sz v v m xs) (fun v' k1 w => RowAt F.w0.heap.size et sz v v' (m + j) (xs ++ news) k1 w ∧ ∀ g, v'.ownBlock = some g → v.ownBlock = some g ∨ k g = none) K i none (o :: r) e := by
  refine we_eff (p := .such fun _ _ => True) ⟨fun _ _ _ _ h => h, hg, fun a w k1 hk hs ⟨hx0, hlack⟩ hsz hlo => ?_⟩ (by rw [hd]; exact h)
  have hev := evs_of hlo
  rw [hop] at hev
  have e1 := hev x (by simp [Op.operands, Call.operands]) _ hx
  have hty : ty ∈ o.looksAt ops := by
    unfold Oper.looksAt
    refine List.mem_append.2 (.inl ?_)
    rw [List.mem_filterMap]
    exact ⟨.tmp ty, by rw [hop]; simp [Op.operands, Call.operands], rfl⟩
  obtain ⟨bx, ox, c, hu, hc⟩ := hyp k1 _ hk (hlo ty hty p hy)
  have e2 : a.eval (.tmp ty) = .slice (some ⟨bx, ox, none⟩) j c := hu
  obtain ⟨v', w', hr, hrow', ⟨g1, g2, g3, g4⟩, g5, g6⟩ := app_world (P := P) (t := t) (ty := o.type) (c := c) w hx0 hs.size (fun q u hq => by rw [addr_add]; exact hc.cell hs.sub hq) hl h1 hz hpos hm hby
  have hexec : (execOp a.eval o).run P w = .ok (.value v') w' := by
    simp [execOp, hop, resolve, invoke, builtin, e1, e2, hr]
  refine (ex_value hexec).mono ?_
  rintro u u' ⟨rfl, rfl⟩
  refine ⟨k1, Le.refl _, ⟨g1.trans hs.os, g2.trans hs.tape, g3.trans hs.output, Nat.le_trans hs.size g4, fun b hb hm => ?_, fun b ob hb => ?_, hs.keep⟩, g4, ⟨⟨hrow', fun g hg => ⟨(hlack g hg).1, Nat.lt_of_lt_of_le (hlack g hg).2 g4⟩⟩, fun g hg => ?_⟩, trivial⟩
  · rw [g5 b (Nat.lt_of_lt_of_le hb hs.size) (fun he => by have := (hx0.block he).1; omega)]
    exact hs.old b hb hm
  · rw [g5 b (hs.sub.lt hb) (fun he => by rw [(hlack b he).1] at hb; cases hb)]
    exact hs.sub b ob hb
  · rcases g6 g hg with h' | h'
    · exact .inl h'
    · refine .inr ?_
      cases hkg : k g with
      | none => rfl
      | some ob =>
        exfalso
        by_cases hvo : v.ownBlock = some g
        · have := (hlack g hvo).2
          omega
        · have := hs.sub.lt (hk g ob (by rw [delV_of hvo]; exact hkg))
          omega
theorem we_s {X0 : PH → World → Prop} {X1 : Value → PH → World → Prop} {K : Nat → Env → Prop} {i : Nat} {dd : Option Nat} {r : List Oper} {v : Value} {d : Nat} (hd : o.dst = some d) (hl : Loc P n ops o e k (.is v)) (h : WE P F n ops k X0 X1 K (i + 1) dd r ((d, .is v) :: e)) : WE P F n ops k X0 X1 K i dd (o :: r) e :=
  we_loc hl (by rw [hd]; exact h)
theorem we_v {X0 : PH → World → Prop} {X1 : Value → PH → World → Prop} {K : Nat → Env → Prop} {i : Nat} {dd : Option Nat} {r : List Oper} {φ : PH → Value → Prop} {d : Nat} (hd : o.dst = some d) (hl : Loc P n ops o e k (.such φ)) (h : WE P F n ops k X0 X1 K (i + 1) dd r ((d, .such φ) :: e)) : WE P F n ops k X0 X1 K i dd (o :: r) e :=
  we_loc hl (by rw [hd]; exact h)
/-- A region that draws and appends to the row v. -/
theorem cg_app {id : Nat} {l : List Oper} {last : Oper} [hm : Mixed P] (v : Value) {et sz m m' : Nat} {xs xs' : List Value} (hrow : Row F.w0.heap.size k et sz v m xs) (hl : l = l.dropLast ++ [last]) (hok : okAny n l = true) (hlast : lastOk l = true) (hdst : (l.dropLast.all fun o => o.dst.isSome) = true) (hdet : det e = true)
    (h : WE P F n l.toArray (delV k v) (RowAt F.w0.heap.size et sz v v m xs) (fun v' k1 w => RowAt F.w0.heap.size et sz v v' m' xs' k1 w ∧ ∀ g, v'.ownBlock = some g → v.ownBlock = some g ∨ k g = none)
      (fun j e' => ∃ (d : Nat) (o : Oper) (e2 : Env), l[j]? = some o ∧ o.dst = some d ∧ det e2 = true ∧ EnvLe e2 e' ∧ ∀ v' k', Row F.w0.heap.size k' et sz v' m' xs' → Turn k k' v v' → RG P F n l.toArray Q [last] ((d, .is v') :: e2) k') 0 none l.dropLast e) : CG P F n Q (.region id l.toArray true) e k := by
  intro a w ha hs
  generalize l.dropLast = A at hl hdst h
  subst hl
  have hs0 : St F (delV k v) w := hs.weak (delV_le k v) fun b hb hm => by
    rw [delV_of (fun he => by have := (hrow.block he).1; omega)]
    exact hs.keep b hb hm
  refine region_eff (F := F) hm.eq hok hlast (fun o ho => (List.all_eq_true.1 hdst) o ho) rowAt_stays (fun v' k1 w k2 w' hb ha hx => ⟨rowAt_stays k1 w k2 w' hb ha hx.1, hx.2⟩) (fun t q hg => by obtain ⟨v, rfl⟩ := det_get hdet hg; trivial) (ha.heap hdet) hs0
    (k := delV k v) (X0 := RowAt F.w0.heap.size et sz v v m xs) (X1 := fun v' k1 w => RowAt F.w0.heap.size et sz v v' m' xs' k1 w ∧ ∀ g, v'.ownBlock = some g → v.ownBlock = some g ∨ k g = none)
    ⟨hrow.at fun g hg => by obtain ⟨_, ob, ho⟩ := hrow.block hg; rw [ho]; exact hs.sub g ob ho, fun g hg => ⟨delV_own hg, by obtain ⟨_, ob, ho⟩ := hrow.block hg; exact hs.sub.lt ho⟩⟩ ?_
  have fin : ∀ (j : Nat) (e' : Env), (∃ (d : Nat) (o : Oper) (e2 : Env), (A ++ [last])[j]? = some o ∧ o.dst = some d ∧ det e2 = true ∧ EnvLe e2 e' ∧ ∀ v' k', Row F.w0.heap.size k' et sz v' m' xs' → Turn k k' v v' → RG P F n (A ++ [last]).toArray Q [last] ((d, .is v') :: e2) k') →
      ∀ k' a' w', Le (delV k v) k' → Ag n e' k' a' → St F k' w' → (∀ o d, (A ++ [last])[j]? = some o → o.dst = some d → RowAt F.w0.heap.size et sz v (a'.tmps.getD d undef) m' xs' k' w' ∧ ∀ g, (a'.tmps.getD d undef).ownBlock = some g → v.ownBlock = some g ∨ k g = none) → wpList P (A ++ [last]).toArray Q [last] a' w' := by
    rintro j e' ⟨d, o, e2, hj, hd, hde, hel, hRG⟩ k' a' w' hle hag hst hX
    obtain ⟨⟨hr', _⟩, hg'⟩ := hX o d hj hd
    generalize hv' : a'.tmps.getD d undef = v' at hr' hg'
    have hagd : ∀ k2, Ag n ((d, .is v') :: e2) k2 a' := fun k2 => ⟨hag.size, hag.defers, fun u p hp => by
      by_cases hu : d = u
      · subst hu
        rw [get_cons_same] at hp
        cases hp
        exact hv'
      · rw [get_cons_other _ _ hu] at hp
        obtain ⟨x, rfl⟩ := det_get hde hp
        exact hag.get u _ (hel.get hp)⟩
    refine hRG v' (fun b => if v'.ownBlock = some b then w'.heap[b]? else delV k v b) (hr'.at fun g hg => by simp [hg]) (fun h hle' hap => ⟨fun b ob hb => ?_, fun g hg => ?_⟩) a' w' (hagd _) ⟨hst.os, hst.tape, hst.output, hst.size, hst.old, fun b ob hb => ?_, fun b hb hmu => ?_⟩
    · have hne : v.ownBlock ≠ some b := fun he => by rw [hap b he] at hb; cases hb
      have hne' : v'.ownBlock ≠ some b := fun he => by
        rcases hg' b he with h' | h'
        · exact hne h'
        · rw [hle' b ob hb] at h'; cases h'
      simp only [hne', if_false]
      rw [delV_of hne]
      exact hle' b ob hb
    · rcases hg' g hg with h' | h'
      · exact hap g h'
      · cases hh : h g with
        | none => rfl
        | some ob => rw [hle' g ob hh] at h'; cases h'
    · replace hb : (if v'.ownBlock = some b then w'.heap[b]? else delV k v b) = some ob := hb
      split at hb
      · exact hb
      · exact hst.sub b ob (hle b ob hb)
    · have hne : v.ownBlock ≠ some b := fun he => by have := (hrow.block he).1; omega
      have hne' : v'.ownBlock ≠ some b := fun he => by have := (hr'.block he).1; omega
      show (if v'.ownBlock = some b then w'.heap[b]? else delV k v b) = F.k0 b
      rw [if_neg hne', delV_of hne]
      exact hs.keep b hb hmu
  revert h
  have mono : ∀ (K K' : Nat → Env → Prop), (∀ j e, K j e → K' j e) → ∀ (l : List Oper) (i : Nat) (d : Option Nat) (e : Env) (X0 : PH → World → Prop) (X1 : Value → PH → World → Prop) (k0 : PH), WE P F n (A ++ [last]).toArray k0 X0 X1 K i d l e → WE P F n (A ++ [last]).toArray k0 X0 X1 K' i d l e := by
    intro K K' hKK l
    induction l with
    | nil => rintro i d e X0 X1 k0 ⟨j, hd, hK⟩; exact ⟨j, hd, hKK j e hK⟩
    | cons o l ih =>
      intro i d e X0 X1 k0 h
      rcases h with ⟨p, h0, h1, h⟩ | ⟨hd, p, h0, h⟩
      · exact .inl ⟨p, h0, h1, ih _ _ _ _ _ _ h⟩
      · exact .inr ⟨hd, p, h0, ih _ _ _ _ _ _ h⟩
  exact fun h => mono _ _ fin A 0 none e _ _ _ h
end
end Go.Wm

/-
  A region that draws its order, with one append to a row of the call's own in its midst and calls that make blocks before and behind it. Conditions: those of each law.
-/
import Derived.Test.YtfejamdfhbamcaaDat
import Derived.Test.YtfejamdfhbamcaaCoB
import Derived.Test.YtfejamdfhbamcaaCrP
set_option linter.all false
namespace Go.Wm
open Go.RowKit Go.Proofs
def inO (n : Int) : Bool := decide (0 ≤ n) && decide (n ≤ 1099511627776)
def errOf (b : Bool) (n : Int) : Value := .int .i64 (if b then 0 else n)
end Go.Wm
namespace Go.Wm
variable [Dfr]
open Go.RowKit
/-- Stage 0: the row is as it was; the world is no less than at the call's start. -/
def XG (N et sz : Nat) (v : Value) (m : Nat) (xs : List Value) : Nat → (Nat → Value) → PH → World → Prop := fun s _ k w => N ≤ w.heap.size ∧ (s = 0 → RowAt N et sz v v m xs k w)
/-- What a call that makes blocks has told, in a region that draws. -/
def Made (N : Nat) (k0 : PH) (φ : Nat → PH → Value → Prop) : PH → Value → Prop := fun k v => ∃ M, N ≤ M ∧ (∀ b, M ≤ b → k0 b = none) ∧ φ M k v
section
variable {P : Program} {F : Fr} {n : Nat} {ops : Array Oper} {Q : Exit → Act → World → Prop} {rest : List Oper} {o : Oper} {e : Env} {k : PH}
theorem cg_grow {id : Nat} {l : List Oper} [hm : Mixed P] (m0 j0 : Nat) (v : Value) {et sz m : Nat} {xs : List Value} (hrow : Row F.w0.heap.size k et sz v m xs) (hok : okAny n l = true) (htail : tailOk m0 l = true) (hml : Nat.ble m0 l.length = true) (hch : chainOk (masks l []) [j0] m0 = true) (hdet : det e = true)
    (h : WC P F n l.toArray (masks l []) [j0] (delV k v) (XG F.w0.heap.size et sz v m xs) (fun e' => ∀ k' vs, Le (delV k v) k' → (∀ t p, get e' t = some p → p.holds k' (vs t)) → RG P F n l.toArray Q (l.drop m0) (nameE vs e') k') 0 (l.take m0) e) :
    CG P F n Q (.region id l.toArray true) e k := by
  intro a w ha hs
  have hlen : (l.take m0).length = m0 := by
    have := Nat.le_of_ble_eq_true hml
    simp; omega
  have hsplit : l.take m0 ++ l.drop m0 = l := List.take_append_drop m0 l
  generalize hA : l.take m0 = A at *
  generalize hT : l.drop m0 = T at *
  subst hlen
  rw [← hsplit] at hok htail hch h ⊢
  have hs' : St F (delV k v) w := hs.weak (delV_le k v) fun b hb hmu => by
    have : v.ownBlock ≠ some b := fun e => by have := (hrow.block e).1; omega
    rw [delV_of this]
    exact hs.keep b hb hmu
  have hx0 : XG F.w0.heap.size et sz v m xs 0 (tmsOf a) (delV k v) w := ⟨hs.size, fun _ => ⟨hrow.le hs.sub, fun g hg => ⟨delV_own hg, by
    obtain ⟨_, ob, ho⟩ := hrow.block hg
    exact hs.sub.lt ho⟩⟩⟩
  refine region_chain (F := F) (k := delV k v) hm.eq hok htail hch (fun s tm k w k' w' hb hag hX => ⟨Nat.le_trans hX.1 hb.size, fun h0 => rowAt_stays k w k' w' hb hag (hX.2 h0)⟩) (fun s tm tm' k w _ hX => hX) (fun t q hg => by obtain ⟨v, rfl⟩ := det_get hdet hg; trivial) (ha.heap hdet) hs' hx0
    (WC.mono (fun e' hK k' a' w' hle hag hst hX => ?_) A 0 e h)
  refine hK k' (fun t => a'.tmps.getD t undef) hle (fun t p hp => hag.get t p hp) a' w' ⟨hag.size, hag.defers, fun t q hq => ?_⟩ hst
  rw [nameE_get] at hq
  cases hg : get e' t with
  | none => rw [hg] at hq; cases hq
  | some p =>
    rw [hg] at hq
    cases hq
    have := hag.get t p hg
    cases p with
    | is v => exact this
    | such φ => rfl
theorem LocI.elim {I : PH → World → Prop} {p : PV} (t : Nat) {φ : PH → Value → Prop} (hg : get e t = some (.such φ)) (ht : (o.looksAt ops).contains t = true) (hm : p.Mono) (h : ∀ v k1, Le k k1 → φ k1 v → LocI P n ops I o ((t, .is v) :: e) k1 p) : LocI P n ops I o e k p := by
  refine ⟨hm, fun a w k1 hk hs hi hsz hl => ?_⟩
  have hv := hl t (List.contains_iff_mem.1 ht) _ hg
  refine (h (a.tmps.getD t undef) k1 hk hv).2 a w k1 (Le.refl _) hs hi hsz fun u hu q hq => ?_
  by_cases htu : t = u
  · subst htu
    rw [get_cons_same] at hq
    cases hq
    rfl
  · rw [get_cons_other _ _ htu] at hq
    exact hl u hu q hq
theorem made_mono {N : Nat} {k0 : PH} {φ : Nat → PH → Value → Prop} (hm : ∀ M k k' v, Le k k' → φ M k v → φ M k' v) : (PV.such (Made N k0 φ)).Mono := fun k k' v hle ⟨M, h1, h2, h3⟩ => ⟨M, h1, h2, hm M k k' v hle h3⟩
/-- A call that makes blocks. -/
theorem loci_ctn {N : Nat} {kq : PH} {I : PH → World → Prop} (hI : ∀ k w, I k w → N ≤ w.heap.size) {x : Operand} {args : Array Operand} {ats : Array TypeId} {g : FuncId} {first cap : Array Value} {vs : List Value} [FnOk P g] {φ : Nat → PH → Value → Prop}
    (hg : wantedE ops e o = some true) (hop : o.op = .call { callee := .value x, args := args, argTypes := ats }) (hx : opv e x = some (.func (.func g) first cap)) (ha : opvs e args.toList = some vs) (hkq : Le kq k)
    (hm : ∀ M k k' v, Le k k' → φ M k v → φ M k' v) (h : CTN P g (first ++ vs.toArray ++ cap) k φ) : LocI P n ops I o e k (.such (Made N kq φ)) := by
  refine ⟨made_mono hm, fun a w k1 hk hs hi _ hl => ?_⟩
  rw [if_pos (wanted_of hl hg)]
  exact ex_enter (run_call hop hx ha (evs_of hl)) ((h w k1 hk hs).mono fun e w' ⟨v, k', h1, h2, h3, h4, h5⟩ => ⟨v, h1, k', h2, h3, h4, w.heap.size, hI _ _ hi, fun b hb => (hs.mono (hkq.trans hk)).none hb, h5⟩)
variable {ms fx : List Nat} {X : Nat → (Nat → Value) → PH → World → Prop} {K : Env → Prop} {i : Nat} {r : List Oper}
theorem wc_iv {d : Nat} {φ : PH → Value → Prop} (hd : o.dst = some d) (hl : LocI P n ops (fun k w => ∃ s tm, s ≤ fx.length ∧ winOk ms fx i s = true ∧ X s tm k w) o e k (.such φ)) (hn : fx.contains i = false) (h : WC P F n ops ms fx k X K (i + 1) r ((d, .such φ) :: e)) : WC P F n ops ms fx k X K i (o :: r) e :=
  .inl ⟨hn, _, hl, by rw [hd]; exact h⟩
theorem xg_size {N et sz m : Nat} {v : Value} {xs : List Value} {ms fx : List Nat} {i : Nat} : ∀ k w, (∃ s tm, s ≤ fx.length ∧ winOk ms fx i s = true ∧ XG N et sz v m xs s tm k w) → N ≤ w.heap.size := fun _ _ ⟨_, _, _, _, h⟩ => h.1
/-- The append, whose second argument is what slot ty holds. -/
theorem eff_grow {t et : TypeId} {sz bs : Nat} {z : Value} {x : Operand} {ty d : Nat} {φ : PH → Value → Prop} {v : Value} {m j : Nat} {xs news : List Value} [ht : TyU P t (.slice et)] [hi : TyI P et sz bs z]
    (hd : o.dst = some d) (hg : o.guard = none) (hop : o.op = .call { callee := .builtin .append, args := #[x, .tmp ty], argTypes := #[t, t] }) (hx : opv e x = some v) (hy : get e ty = some (.such φ)) (hyp : ∀ k1 u, Le k k1 → φ k1 u → ∃ bx ox c, u = .slice (some ⟨bx, ox, none⟩) j c ∧ Cells k1 bx ox news)
    (hl : news.length = j * sz) (h1 : ∀ u ∈ news, u.oneCell' = true) (hz : Nat.beq z.cells.size sz = true) (hpos : Nat.blt 0 sz = true) (hm : m + j ≤ maxLen) (hby : (m + j) * bs ≤ 140737488355328) :
    EffS P F n ops (XG F.w0.heap.size et sz v m xs) 0 o e k (.such fun k' v' => Row F.w0.heap.size k' et sz v' (m + j) (xs ++ news)) := by
  refine ⟨fun k k' v hle h => h.le hle, hg, fun a w k1 hk hs hX hsz hlo => ?_⟩
  obtain ⟨hN, hX⟩ := hX
  obtain ⟨hx0, hlack⟩ := hX rfl
  have hev := evs_of hlo
  rw [hop] at hev
  have e1 := hev x (by simp [Op.operands, Call.operands]) _ hx
  have hty : ty ∈ o.looksAt ops := by
    unfold Oper.looksAt
    refine List.mem_append.2 (.inl ?_)
    rw [List.mem_filterMap]
    exact ⟨.tmp ty, by simp [hop, Op.operands, Call.operands], rfl⟩
  have hu := hlo ty hty _ hy
  obtain ⟨bx, ox, c, hue, hcl⟩ := hyp k1 _ hk hu
  have e2 : a.eval (.tmp ty) = .slice (some ⟨bx, ox, none⟩) j c := hue
  obtain ⟨v', w', hr, g1, g2, g3, g4⟩ := app_world (P := P) (t := t) (ty := o.type) (c := c) w hx0 hN (fun q u hq => by rw [addr_add]; exact hcl.cell hs.sub hq) hl h1 hz hpos hm hby
  have hexec : (execOp a.eval o).run P w = .ok (.value v') w' := by
    simp [execOp, hop, resolve, invoke, builtin, e1, e2, hr]
  have hs2 : St F (fun b => if v.ownBlock = some b then w.heap[b]? else k1 b) w := by
    refine ⟨hs.os, hs.tape, hs.output, hs.size, hs.old, fun b ob hb => ?_, fun b hb hmu => ?_⟩
    · by_cases e : v.ownBlock = some b
      · simpa [e] using hb
      · simp only [e, if_false] at hb
        exact hs.sub b ob hb
    · have : v.ownBlock ≠ some b := fun e => by have := (hx0.block e).1; omega
      simp only [this, if_false]
      exact hs.keep b hb hmu
  have hrow2 : Row F.w0.heap.size (fun b => if v.ownBlock = some b then w.heap[b]? else k1 b) et sz v m xs := hx0.at fun g hg => by simp [hg, wPH]
  obtain ⟨k', q1, q2, q3⟩ := row_step hs2 hrow2 g1 g2 g3 g4
  have hle : Le k1 (fun b => if v.ownBlock = some b then w.heap[b]? else k1 b) := fun b ob hb => by
    have : v.ownBlock ≠ some b := fun e => by rw [(hlack b e).1] at hb; cases hb
    simp only [this, if_false]
    exact hb
  obtain ⟨hle', _⟩ := q2 k1 hle fun g hg => (hlack g hg).1
  refine ex_value hexec |>.mono ?_
  rintro u w'' ⟨rfl, rfl⟩
  exact ⟨k', hle', q3, ⟨Nat.le_trans hN g2.2.2.2, fun h => by omega⟩, q1⟩
/-- A region that draws its order, with calls that make blocks. -/
def XN (N : Nat) : Nat → (Nat → Value) → PH → World → Prop := fun _ _ _ w => N ≤ w.heap.size
theorem xn_size {N : Nat} {ms fx : List Nat} {i : Nat} : ∀ k w, (∃ s tm, s ≤ fx.length ∧ winOk ms fx i s = true ∧ XN N s tm k w) → N ≤ w.heap.size := fun _ _ ⟨_, _, _, _, h⟩ => h
theorem cg_calls {id : Nat} {l : List Oper} [hm : Mixed P] (m0 : Nat) (hok : okAny n l = true) (htail : tailOk m0 l = true) (hml : Nat.ble m0 l.length = true) (hdet : det e = true)
    (h : WC P F n l.toArray (masks l []) [] k (XN F.w0.heap.size) (fun e' => ∀ k' vs, Le k k' → (∀ t p, get e' t = some p → p.holds k' (vs t)) → RG P F n l.toArray Q (l.drop m0) (nameE vs e') k') 0 (l.take m0) e) :
    CG P F n Q (.region id l.toArray true) e k := by
  intro a w ha hs
  have hlen : (l.take m0).length = m0 := by
    have := Nat.le_of_ble_eq_true hml
    simp; omega
  have hsplit : l.take m0 ++ l.drop m0 = l := List.take_append_drop m0 l
  generalize hA : l.take m0 = A at *
  generalize hT : l.drop m0 = T at *
  subst hlen
  rw [← hsplit] at hok htail h ⊢
  refine region_chain (F := F) (k := k) (fx := []) hm.eq hok htail (by rfl) (fun s tm k w k' w' hb hag hX => Nat.le_trans hX hb.size) (fun s tm tm' k w _ hX => hX) (fun t q hg => by obtain ⟨v, rfl⟩ := det_get hdet hg; trivial) ha hs (X := XN F.w0.heap.size) hs.size
    (WC.mono (fun e' hK k' a' w' hle hag hst hX => ?_) A 0 e h)
  refine hK k' (fun t => a'.tmps.getD t undef) hle (fun t p hp => hag.get t p hp) a' w' ⟨hag.size, hag.defers, fun t q hq => ?_⟩ hst
  rw [nameE_get] at hq
  cases hg : get e' t with
  | none => rw [hg] at hq; cases hq
  | some p =>
    rw [hg] at hq
    cases hq
    have := hag.get t p hg
    cases p with
    | is v => exact this
    | such φ => rfl
end
end Go.Wm

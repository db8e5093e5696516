/-
  Lists of the call's own. Conditions: none.
-/
import Derived.Test.YtgalkgidjpbiaaaGreatCoB
import Derived.Test.YtgalkgidjpbiaaaGreatCrP
import Derived.Test.YtgalkgidjpbiaaaGreatA3
import Derived.Test.YtgalkgidjpbiaaaGreatIns
set_option linter.all false
namespace Go.Wm
open Go.RowKit
/-- Stage 0: the row is as it was; the world is no less than at the call's start. -/
def XG (N et sz : Nat) (v : Value) (m : Nat) (xs : List Value) : Nat → (Nat → Value) → PH → World → Prop := fun s _ k w => N ≤ w.heap.size ∧ (s = 0 → RowAt N et sz v v m xs k w)
/-- What a call that makes blocks has told, in a region that draws. -/
def Made (N : Nat) (k0 : PH) (φ : Nat → PH → Value → Prop) : PH → Value → Prop := fun k v => ∃ M, N ≤ M ∧ (∀ b, M ≤ b → k0 b = none) ∧ φ M k v
section
variable {P : Program} {F : Fr} {n : Nat} {ops : Array Oper} {Q : Exit → Act → World → Prop} {rest : List Oper} {o : Oper} {e : Env} {k : PH}
theorem LocI.elim {I : PH → World → Prop} {p : PV} (t : Nat) {φ : PH → Value → Prop} (hg : get e t = some (.such φ)) (ht : (o.looksAt ops).contains t = true) (hm : p.Mono) (h : ∀ v k1, Le k k1 → φ k1 v → LocI P n ops I o ((t, .is v) :: e) k1 p) : LocI P n ops I o e k p := by
  refine ⟨hm, fun a w k1 hk hs hi hsz hl => ?_⟩
  have hv := hl t (List.contains_iff_mem.1 ht) _ hg
  refine (h (a.tmps.getD t undef) k1 hk hv).2 a w k1 (Le.refl _) hs hi hsz fun u hu q hq => ?_
  by_cases htu : t = u
  · subst htu
    rw [get_cons_same] at hq
    cases hq
    rfl
  · rw [get_cons_other _ _ htu] at hq
    exact hl u hu q hq
theorem made_mono {N : Nat} {k0 : PH} {φ : Nat → PH → Value → Prop} (hm : ∀ M k k' v, Le k k' → φ M k v → φ M k' v) : (PV.such (Made N k0 φ)).Mono := fun k k' v hle ⟨M, h1, h2, h3⟩ => ⟨M, h1, h2, hm M k k' v hle h3⟩
/-- A call that makes blocks. -/
theorem loci_ctn {N : Nat} {kq : PH} {I : PH → World → Prop} (hI : ∀ k w, I k w → N ≤ w.heap.size) {x : Operand} {args : Array Operand} {ats : Array TypeId} {g : FuncId} {first cap : Array Value} {vs : List Value} [FnOk P g] {φ : Nat → PH → Value → Prop}
    (hg : wantedE ops e o = some true) (hop : o.op = .call { callee := .value x, args := args, argTypes := ats }) (hx : opv e x = some (.func (.func g) first cap)) (ha : opvs e args.toList = some vs) (hkq : Le kq k)
    (hm : ∀ M k k' v, Le k k' → φ M k v → φ M k' v) (h : CTN P g (first ++ vs.toArray ++ cap) k φ) : LocI P n ops I o e k (.such (Made N kq φ)) := by
  refine ⟨made_mono hm, fun a w k1 hk hs hi _ hl => ?_⟩
  rw [if_pos (wanted_of hl hg)]
  exact ex_enter (run_call hop hx ha (evs_of hl)) ((h w k1 hk hs).mono fun e w' ⟨v, k', h1, h2, h3, h4, h5⟩ => ⟨v, h1, k', h2, h3, h4, w.heap.size, hI _ _ hi, fun b hb => (hs.mono (hkq.trans hk)).none hb, h5⟩)
variable {ms fx : List Nat} {X : Nat → (Nat → Value) → PH → World → Prop} {K : Env → Prop} {i : Nat} {r : List Oper}
theorem wc_iv {d : Nat} {φ : PH → Value → Prop} (hd : o.dst = some d) (hl : LocI P n ops (fun k w => ∃ s tm, s ≤ fx.length ∧ winOk ms fx i s = true ∧ X s tm k w) o e k (.such φ)) (hn : fx.contains i = false) (h : WC P F n ops ms fx k X K (i + 1) r ((d, .such φ) :: e)) : WC P F n ops ms fx k X K i (o :: r) e :=
  .inl ⟨hn, _, hl, by rw [hd]; exact h⟩
/-- A region that draws its order, with calls that make blocks. -/
def XN (N : Nat) : Nat → (Nat → Value) → PH → World → Prop := fun _ _ _ w => N ≤ w.heap.size
theorem xn_size {N : Nat} {ms fx : List Nat} {i : Nat} : ∀ k w, (∃ s tm, s ≤ fx.length ∧ winOk ms fx i s = true ∧ XN N s tm k w) → N ≤ w.heap.size := fun _ _ ⟨_, _, _, _, h⟩ => h
theorem cg_calls {id : Nat} {l : List Oper} [hm : Mixed P] (m0 : Nat) (hok : okAny n l = true) (htail : tailOk m0 l = true) (hml : Nat.ble m0 l.length = true) (hdet : det e = true)
    (h : WC P F n l.toArray (masks l []) [] k (XN F.w0.heap.size) (fun e' => ∀ k' vs, Le k k' → (∀ t p, get e' t = some p → p.holds k' (vs t)) → RG P F n l.toArray Q (l.drop m0) (nameE vs e') k') 0 (l.take m0) e) :
    CG P F n Q (.region id l.toArray true) e k := by
  intro a w ha hs
  have hlen : (l.take m0).length = m0 := by
    have := Nat.le_of_ble_eq_true hml
    simp; omega
  have hsplit : l.take m0 ++ l.drop m0 = l := List.take_append_drop m0 l
  generalize hA : l.take m0 = A at *
  generalize hT : l.drop m0 = T at *
  subst hlen
  rw [← hsplit] at hok htail h ⊢
  refine region_chain (F := F) (k := k) (fx := []) hm.eq hok htail (by rfl) (fun s tm k w k' w' hb hag hX => Nat.le_trans hX hb.size) (fun s tm tm' k w _ hX => hX) (fun t q hg => by obtain ⟨v, rfl⟩ := det_get hdet hg; trivial) ha hs (X := XN F.w0.heap.size) hs.size
    (WC.mono (fun e' hK k' a' w' hle hag hst hX => ?_) A 0 e h)
  refine hK k' (fun t => a'.tmps.getD t undef) hle (fun t p hp => hag.get t p hp) a' w' ⟨hag.size, hag.defers, fun t q hq => ?_⟩ hst
  rw [nameE_get] at hq
  cases hg : get e' t with
  | none => rw [hg] at hq; cases hq
  | some p =>
    rw [hg] at hq
    cases hq
    have := hag.get t p hg
    cases p with
    | is v => exact this
    | such φ => rfl
end
end Go.Wm
namespace Go.Wm
open Go.RowKit
def CTMN (P : Program) (f : FuncId) (args : Array Value) (kr : PH) (N : Nat) (M : Nat → Prop) (φ : PH → Value → Prop) : Prop :=
  ∀ w, Sub kr w → N ≤ w.heap.size → Calls P f args w (RetM kr w M φ)
theorem ctmn_of_body {P : Program} {f : FuncId} {fn : Func} {c : Code} {l : List Value} {k : PH} {N : Nat} {M : Nat → Prop} {φ : PH → Value → Prop} (hf : P.funcs[f]? = some fn) (hb : fn.body = some c) {n : Nat} (hn : fn.ntmps = n)
    (hl : l.length ≤ n) (h : ∀ F : Fr, F.k0 = k → F.mu = M → N ≤ F.w0.heap.size → (∀ b o, k b = some o → b < F.w0.heap.size) → CG P F n (bodyPost P fn (RetF F φ)) c (argEnv 0 l) k) : CTMN P f l.toArray k N M φ := by
  intro w hs hN
  have hs0 : St ⟨w, k, M⟩ k w := ⟨rfl, rfl, rfl, Nat.le_refl _, fun _ _ _ => rfl, hs, fun _ _ _ => rfl⟩
  subst hn
  refine Calls.mono (calls_of_wp (R := RetF ⟨w, k, M⟩ φ) hf hb (h ⟨w, k, M⟩ rfl rfl hN (fun b o hb => hs.lt hb) _ w (ag_args hl) hs0)) ?_
  rintro e w' ⟨v, kc, he, hst, hφ⟩
  exact ⟨v, kc, he, ⟨hst.os, hst.tape, hst.output, hst.size⟩, hst.old, hst.keep, hst.sub, hφ⟩
theorem CTMN.of {P : Program} {f : FuncId} {args : Array Value} {k : PH} {N : Nat} {M : Nat → Prop} {φ : PH → Value → Prop} (h : CTM P f args k M φ) : CTMN P f args k N M φ := fun w hs _ => h w hs
section
variable {P : Program} {F : Fr} {n : Nat} {ops : Array Oper} {Q : Exit → Act → World → Prop} {rest : List Oper} {o : Oper} {e : Env} {k : PH}
theorem rcmn {x : Operand} {args : Array Operand} {ats : Array TypeId} {g : FuncId} {first cap : Array Value} {vs : List Value} [FnOk P g] {N : Nat} {M : Nat → Prop} {φ : PH → Value → Prop} {d : Nat}
    (hd : o.dst = some d) (hf : Nat.blt d n = true) (hdet : det e = true) (hgd : o.guard = none) (hop : o.op = .call { callee := .value x, args := args, argTypes := ats }) (hx : opv e x = some (.func (.func g) first cap)) (ha : opvs e args.toList = some vs)
    (hN : N ≤ F.w0.heap.size) (hct : CTMN P g (first ++ vs.toArray ++ cap) k N M φ) (hM : ∀ b, M b → F.w0.heap.size ≤ b ∨ F.mu b)
    (h : ∀ v k', (∀ h, Le h k → (∀ b, M b → h b = none) → Le h k') → φ k' v → RG P F n ops Q rest ((d, .is v) :: e) k') : RG P F n ops Q (o :: rest) e k := by
  intro a w hag hs
  unfold wpList
  rw [if_pos (by simp [Region.wanted, hgd])]
  refine .inl (ex_enter (run_call hop hx ha (evs_of (ops := ops) (ag_looks hag))) (φ := fun v w' => ∃ k', (∀ h, Le h k → (∀ b, M b → h b = none) → Le h k') ∧ φ k' v ∧ St F k' w') ((hct w hs.sub (Nat.le_trans hN hs.size)).mono ?_) _ _ ?_)
  · rintro en w' ⟨v, k', h1, ⟨h2a, h2b, h2c, h2d⟩, h3, h4, h5, h6⟩
    refine ⟨v, h1, k', fun h' hle hno b ob hb => ?_, h6, ⟨h2a.trans hs.os, h2b.trans hs.tape, h2c.trans hs.output, Nat.le_trans hs.size h2d, fun b hb hm => ?_, h5, fun b hb hm => ?_⟩⟩
    · have hk := hle b ob hb
      have hnm : ¬ M b := fun hm => by rw [hno b hm] at hb; cases hb
      rw [h4 b (hs.sub.lt hk) hnm]
      exact hk
    · have hnm : ¬ M b := fun hm' => (hM b hm').elim (fun h => by omega) hm
      rw [h3 b (Nat.lt_of_lt_of_le hb hs.size) hnm]
      exact hs.old b hb hm
    · have hnm : ¬ M b := fun hm' => (hM b hm').elim (fun h => by omega) hm
      rw [h4 b (Nat.lt_of_lt_of_le hb hs.size) hnm]
      exact hs.keep b hb hm
  · rintro v w' ⟨k', h1, h2, h3⟩
    rw [hd]
    exact h v k' h1 h2 _ _ ((hag.heap (k' := k') hdet).put (d := some d) hf rfl) h3
end
end Go.Wm
namespace Go.Wm
section
variable {P : Program} {F : Fr} {n : Nat} {ops : Array Oper} {Q : Exit → Act → World → Prop} {rest : List Oper} {o : Oper} {e : Env} {k : PH}
/-- Two texts, one behind the other. -/
theorem d_concat {t t' : TypeId} {x y : Operand} {a b : ByteArray} (hop : o.op = .binOp .add t x y t') (hx : opv e x = some (.string a)) (hy : opv e y = some (.string b)) (hl : a.size + b.size ≤ 1000000) : Det P e k o (.string (a ++ b)) := by
  intro ev w hev _
  rw [hop] at hev
  simp [execOp, hop, hev x (by simp [Op.operands]) _ hx, hev y (by simp [Op.operands]) _ hy, eqGuard, binOp, Op.stringOp]
  omega
variable {kt : TypeId} {α : Type} [DecidableEq α] {enc : α → Value}
/-- An entry of a map's literal. -/
theorem r_ins {t et : TypeId} {m key y : Operand} {r : Nat} {x : α} {v : Value} {kv : List (α × Value)} [h : KeyOk P kt enc] [ht : TyU P t (.map kt et)] (hk : MapAt enc k r kv) (hr : F.w0.heap.size ≤ r) (hd : o.dst = none) (hdet : det e = true) (hg : o.guard = none) (hop : o.op = .insert t m key y) (hmv : opv e m = some (.map (some r))) (hkv : opv e key = some (enc x)) (hyv : opv e y = some v)
    (hh : ∀ k', Turn1 k k' r → MapAt enc k' r (kput x v kv) → RG P F n ops Q rest e k') : RG P F n ops Q (o :: rest) e k := by
  obtain ⟨es, cl, h1, rfl, h2, h3⟩ := hk
  obtain ⟨g1, g2, g3⟩ := upd_kput x v es cl h2 h3
  intro a w ha hs
  unfold wpList
  rw [if_pos (by simp [Region.wanted, hg])]
  have hev := evs_of (ops := ops) (o := o) (ag_looks ha)
  rw [hop] at hev
  have hw := hs.sub _ _ h1
  have hrun := run_update (P := P) (t := t) hw x v
  have hx : (execOp a.eval o).run P w = .ok .skip { w with heap := w.heap.setIfInBounds r (.map (((updE x v es cl).1).map (toE enc)).toArray (updE x v es cl).2) } := by
    simp [execOp, hop, hev m (by simp [Op.operands]) _ hmv, hev key (by simp [Op.operands]) _ hkv, hev y (by simp [Op.operands]) _ hyv, hrun]
  refine .inl (ex_skip hx _ _ ?_)
  rintro u w' ⟨rfl, rfl⟩
  rw [hd]
  exact hh _ (turn1_upd _ _ _) ⟨_, _, upd_same _ _ _, g1, g2, g3⟩ _ _ (ha.heap hdet) (hs.turn (.inl hr) rfl rfl rfl (by simp) (heap_setObj hw) fun i hi _ => by simp [Array.getElem?_setIfInBounds, Ne.symm hi])
end
end Go.Wm
namespace Go.Wm
/-- A new block, in worlds that have so many blocks at least. -/
theorem loci_newN {P : Program} {n N : Nat} {ops : Array Oper} {o : Oper} {e : Env} {k kq : PH} {I : PH → World → Prop} {vf : Nat → Value} {obj : Obj} (hI : ∀ k w, I k w → N ≤ w.heap.size) (hg : wantedE ops e o = some true) (hkq : Le kq k) (h : Alc P e k o vf obj) : LocI P n ops I o e k (.such (NewN N kq vf obj)) := by
  refine ⟨newN_mono, fun a w k1 hk hs hi _ hl => ?_⟩
  rw [if_pos (wanted_of hl hg)]
  exact (ex_value (h a.eval w (evs_of hl) (hs.mono hk))).mono fun u u' ⟨h1, h2⟩ => by
    subst h2
    exact ⟨upd k1 w.heap.size obj, below_alloc _ _, agr_upd (Nat.le_refl _) _, sub_alloc hs _, ⟨_, h1, upd_same _ _ _, (hs.mono (hkq.trans hk)).none (Nat.le_refl _), hI _ _ hi⟩⟩
end Go.Wm
namespace Go.Wm
/-- Three results, the first of which is a cell. -/
theorem eg_returnC3 {P : Program} {F : Fr} {n : Nat} {e : Env} {k : PH} {fn : Func} {φ : PH → Value → Prop} {t u u' : Nat} {ty : TypeId} (hr : fn.results = #[.cell t ty, .tmp u, .tmp u']) {d : TypeDesc} {b off sz bs : Nat} {z x x' : Value} {vs : List Value} [h : TyU P ty d] [hi : TyI P ty sz bs z] (hv : get e t = some (.is (.pointer (some ⟨b, off, none⟩)))) (hx : get e u = some (.is x)) (hx' : get e u' = some (.is x')) (hd : aggD d = true)
    (hc : Cells k b off vs) (hl : vs.length = sz) (hφ : φ k (.tuple #[.agg vs.toArray, x, x'])) : EG F n (bodyPost P fn (RetF F φ) .ret) e k := by
  intro a w ha hs
  have h1 : a.tmps.getD t undef = .pointer (some ⟨b, off, none⟩) := ha.get t _ hv
  have h3 : a.tmps.getD u undef = x := ha.get u _ hx
  have h5 : a.tmps.getD u' undef = x' := ha.get u' _ hx'
  have hl := run_loadAgg (P := P) (t := ty) (w := w) hd hl hc hs.sub
  refine bodyPost_ret ?_ ha.defers ⟨_, k, rfl, hs, hφ⟩
  have h2 : a.tmps[t]?.getD undef = .pointer (some ⟨b, off, none⟩) := by rw [← h1]; simp
  have h4 : a.tmps[u]?.getD undef = x := by rw [← h3]; simp
  have h6 : a.tmps[u']?.getD undef = x' := by rw [← h5]; simp
  simp [results, hr, asAddr, h2, h4, h6, hl]
end Go.Wm
namespace Go.Wm
open Go.RowKit Go.Proofs
attribute [local irreducible] RG CG EG WA Loc Det Alc CT Exit.then Exit.inBlock Code.wp bodyPost
/-- v is a slice of the call's own (its block is none from before N) that reads as l. -/
def Own {α : Type} (T : Ty α) (N : Nat) (k : PH) (et : Nat) (v : Value) (l : List α) : Prop := ∃ css, Pieces T k css l ∧ Row N k et T.sz v l.length css.flatten
theorem Own.le {α : Type} {T : Ty α} {N : Nat} {k k' : PH} {et : Nat} {v : Value} {l : List α} (h : Own T N k et v l) (hl : Le k k') : Own T N k' et v l := by
  obtain ⟨css, h1, h2⟩ := h
  exact ⟨css, h1.le hl, h2.le hl⟩
theorem Own.N_le {α : Type} {T : Ty α} {N N' : Nat} {k : PH} {et : Nat} {v : Value} {l : List α} (h : Own T N k et v l) (hN : N' ≤ N) : Own T N' k et v l := by
  obtain ⟨css, h1, h2⟩ := h
  exact ⟨css, h1, h2.N_le hN⟩
theorem Own.sl {α : Type} {T : Ty α} {N : Nat} {k : PH} {et : Nat} {v : Value} {l : List α} (h : Own T N k et v l) : ∃ a c, v = .slice a l.length c ∧ Sl T k a c l := by
  obtain ⟨css, h1, h2⟩ := h
  exact h2.sls h1
theorem Own.block {α : Type} {T : Ty α} {N : Nat} {k : PH} {et : Nat} {v : Value} {l : List α} (h : Own T N k et v l) {g : Nat} (hg : v.ownBlock = some g) : N ≤ g ∧ ∃ ob, k g = some ob := by
  obtain ⟨css, h1, h2⟩ := h
  exact h2.block hg
theorem Own.apart {α : Type} {T : Ty α} {N : Nat} {k h : PH} {et : Nat} {v : Value} {l : List α} (H : Own T N k et v l) (hn : ∀ b, N ≤ b → h b = none) : Apart h v := by
  obtain ⟨css, h1, h2⟩ := H
  exact h2.apart hn
end Go.Wm

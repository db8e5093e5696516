/-
  Contracts that say from where on the blocks are new that a call hands back; append of made zeros; caps. Conditions: those of each law.
-/
import Derived.Test.YtapfmndcjcdcjaaMore
import Derived.Lib.AppendZeros
set_option linter.all false
namespace Go.Wm
open Go.RowKit
/-- As 'CT', and told the number of blocks ahead of the call. -/
def CTN (P : Program) (f : FuncId) (args : Array Value) (kr : PH) (φ : Nat → PH → Value → Prop) : Prop :=
  ∀ w k, Le kr k → Sub k w → Calls P f args w (Ret k w (φ w.heap.size))
theorem ctn_of_body {P : Program} {f : FuncId} {fn : Func} {c : Code} {l : List Value} {k : PH} {φ : Nat → PH → Value → Prop} (hf : P.funcs[f]? = some fn) (hb : fn.body = some c) {n : Nat} (hn : fn.ntmps = n)
    (hl : l.length ≤ n) (hm : ∀ N k k' v, Le k k' → φ N k v → φ N k' v)
    (h : ∀ F : Fr, F.k0 = k → (F.mu = fun _ => False) → CG P F n (bodyPost P fn (RetF F (φ F.w0.heap.size))) c (argEnv 0 l) k) : CTN P f l.toArray k φ := by
  intro w k1 hle hs
  have hs0 : St ⟨w, k, fun _ => False⟩ k w := ⟨rfl, rfl, rfl, Nat.le_refl _, fun _ _ _ => rfl, hs.mono hle, fun _ _ _ => rfl⟩
  subst hn
  refine Calls.mono (calls_of_wp (R := RetF ⟨w, k, fun _ => False⟩ (φ w.heap.size)) hf hb (h ⟨w, k, fun _ => False⟩ rfl rfl _ w (ag_args hl) hs0)) ?_
  rintro e w' ⟨v, kc, he, hst, hφ⟩
  refine ⟨v, fun b => if b < w.heap.size then k1 b else kc b, he, ⟨hst.os, hst.tape, hst.output, hst.size, fun b hb => hst.old b hb (fun h => h)⟩, fun b hb => by simp [hb], ?_, ?_⟩
  · intro b o hb
    by_cases hlt : b < w.heap.size
    · simp only [hlt, if_true] at hb
      rw [hst.old b hlt (fun h => h)]
      exact hs b o hb
    · simp only [hlt, if_false] at hb
      exact hst.sub b o hb
  · refine hm _ kc _ v (fun b o hb => ?_) hφ
    by_cases hlt : b < w.heap.size
    · simp only [hlt, if_true]
      rw [hst.keep b hlt (fun h => h)] at hb
      exact hle b o hb
    · simp only [hlt, if_false]
      exact hb
section
variable {P : Program} {F : Fr} {n : Nat} {ops : Array Oper} {Q : Exit → Act → World → Prop} {rest : List Oper} {o : Oper} {e : Env} {k : PH}
/-- A call by such a contract. -/
theorem rvn {x : Operand} {args : Array Operand} {ats : Array TypeId} {g : FuncId} {first cap : Array Value} {vs : List Value} [FnOk P g] {φ : Nat → PH → Value → Prop} {d : Nat}
    (hd : o.dst = some d) (hf : Nat.blt d n = true) (hdet : det e = true) (hgd : o.guard = none) (hop : o.op = .call { callee := .value x, args := args, argTypes := ats }) (hx : opv e x = some (.func (.func g) first cap)) (ha : opvs e args.toList = some vs)
    (hct : CTN P g (first ++ vs.toArray ++ cap) k φ)
    (h : ∀ N k' v, F.w0.heap.size ≤ N → (∀ b, N ≤ b → k b = none) → Le k k' → φ N k' v → RG P F n ops Q rest ((d, .is v) :: e) k') : RG P F n ops Q (o :: rest) e k := by
  intro a w hag hs
  unfold wpList
  rw [if_pos (by simp [Region.wanted, hgd])]
  refine .inl (ex_enter (run_call hop hx ha (evs_of (ops := ops) (ag_looks hag))) (φ := fun v w' => ∃ k', (∀ b, w.heap.size ≤ b → k b = none) ∧ Le k k' ∧ φ w.heap.size k' v ∧ St F k' w') ((hct w k (Le.refl _) hs.sub).mono ?_) _ _ ?_)
  · rintro en w' ⟨v, k', h1, h2, h3, h4, h5⟩
    exact ⟨v, h1, k', fun b hb => hs.sub.none hb, h3.le hs.sub, h5, hs.step h2 h3 h4⟩
  · rintro v w' ⟨k', h1, h2, h3, h4⟩
    refine h w.heap.size k' v hs.size h1 h2 h3 _ _ ?_ h4
    rw [hd]
    exact (hag.heap (k' := k') hdet).put (d := some d) (p := .is v) hf rfl
theorem d_cap {t et : TypeId} {x : Operand} {a : Option Addr} {m c : Nat} [h : TyU P t (.slice et)] (hop : o.op = .call { callee := .builtin .cap, args := #[x], argTypes := #[t] }) (hx : opv e x = some (.slice a m c)) : Det P e k o (.int .i64 (c : Int)) := by
  intro ev w hev _
  rw [hop] at hev
  have e1 := hev x (by simp [Op.operands, Call.operands]) _ hx
  simp [execOp, hop, resolve, invoke, builtin, e1, Builtin.cap_, run_underlying h.eq]
  rfl
/-- append(nil, make([]T, n)...). -/
theorem a_zeros {t tn et : TypeId} {kn ki : IntKind} {sz bs : Nat} {z : Value} {x y : Operand} {m d : Nat} [ht : TyU P t (.slice et)] [htn : TyU P tn (.int kn)] [hi : TyI P et sz bs z] (hd : o.dst = some d) (hf : Nat.blt d n = true) (hdet : det e = true) (hg : o.guard = none)
    (hop : o.op = .call { callee := .builtin .append, args := #[x, y], argTypes := #[t, tn] }) (hx : opv e x = some (.slice none 0 0)) (hy : opv e y = some (.int ki (m : Int))) (h0 : 0 < m) (hs : Nat.blt 0 sz = true) (hz : Nat.beq z.cells.size sz = true) (h63 : m ≤ maxLen) (h48 : m * bs ≤ 281474976710656)
    (h : ∀ g cap cur k', F.w0.heap.size ≤ g → k g = none → Le k k' → k' g = some (.cells cur et (0, 0)) → m ≤ cap → cap ≤ maxLen → cur.size = cap * sz → RG P F n ops Q rest ((d, .is (.slice (some ⟨g, 0, none⟩) m cap)) :: e) k') : RG P F n ops Q (o :: rest) e k := by
  intro a w ha hst
  unfold wpList
  rw [if_pos (by simp [Region.wanted, hg])]
  have ev := evs_of (ops := ops) (o := o) (ag_looks ha)
  rw [hop] at ev
  have e1 := ev x (by simp [Op.operands, Call.operands]) _ hx
  have e2 := ev y (by simp [Op.operands, Call.operands]) _ hy
  obtain ⟨i, hi1, hi2, hi3, hi4⟩ := hi.eq
  subst hi2
  subst hi3
  have hzs : z.cells.size = i.size := Nat.eq_of_beq_eq_true hz
  have hpos' : 0 < i.size := by simpa [Nat.blt_eq] using hs
  have h63' : maxLen = 9223372036854775807 := rfl
  have hr := Lib.run_append_nil_zeros (P := P) w t tn o.type et i z ki kn ht.eq htn.eq hi1 hi4 m h0 hpos' (by omega) h48
  have hexec : ∀ v' w', (Builtin.append_ #[t, tn] o.type #[.slice none 0 0, .int ki (m : Int)]).run P w = .ok v' w' → (execOp a.eval o).run P w = .ok (.value v') w' := by
    intro v' w' hr
    simp [execOp, hop, resolve, invoke, builtin, e1, e2, hr]
  have hcap := grownCap_bd w m 0 et h63
  have hb : Below w.heap.size w (w.drew.alloc (.cells (Builtin.zeroCells z.cells m ++ Builtin.zeroCells z.cells (grownCap w m 0 et - m)) et)) := (Below.refl _ w).drew.alloc (Nat.le_refl _) _
  refine .inl (ex_value (hexec _ _ hr) _ _ ?_)
  rintro _ _ ⟨rfl, rfl⟩
  rw [hd]
  refine h w.heap.size (grownCap w m 0 et) (Builtin.zeroCells z.cells m ++ Builtin.zeroCells z.cells (grownCap w m 0 et - m)) (upd k w.heap.size _) hst.size (hst.sub.none (Nat.le_refl _)) (le_new (hst.sub.none (Nat.le_refl _)) _) (upd_same _ _ _) hcap.1 hcap.2 ?_ _ _ ?_ ?_
  · rw [Array.size_append, size_zeroCells, size_zeroCells, hzs, ← Nat.add_mul]
    congr 1
    omega
  · exact (ha.heap hdet).put (d := some d) (p := .is _) hf rfl
  · refine hst.step hb (agr_upd (Nat.le_refl _) _) fun b ob hbo => ?_
    by_cases hbe : b = w.heap.size
    · subst hbe
      rw [upd_same] at hbo
      cases hbo
      show (w.heap.push _)[w.heap.size]? = _
      simp
    · rw [upd_other hbe] at hbo
      rw [hb.block b (hst.sub.lt hbo)]
      exact hst.sub b ob hbo
end
theorem Row.N_le {N N' : Nat} {k : PH} {et sz : Nat} {v : Value} {m : Nat} {xs : List Value} (h : Row N k et sz v m xs) (hN : N' ≤ N) : Row N' k et sz v m xs := by
  obtain ⟨h1, h2⟩ := h
  refine ⟨h1, ?_⟩
  rcases h2 with h2 | ⟨g, cap, cur, e, hg, h3⟩
  · exact .inl h2
  · exact .inr ⟨g, cap, cur, e, Nat.le_trans hN hg, h3⟩
theorem Row.apart {N : Nat} {k h : PH} {et sz : Nat} {v : Value} {m : Nat} {xs : List Value} (H : Row N k et sz v m xs) (hn : ∀ b, N ≤ b → h b = none) : Apart h v := fun g hg => hn g (H.block hg).1
end Go.Wm

/-
  append(b, s...): a text's bytes behind a row of the call's own. Conditions: that there is room in memory.
-/
import Derived.Test.YtjonlpdnhbnmmaaCoA
import Derived.Lib.AppendStr
set_option linter.all false
namespace Go.Wm
open Go.RowKit
section
variable {P : Program} {F : Fr} {n : Nat} {ops : Array Oper} {Q : Exit → Act → World → Prop} {rest : List Oper} {o : Oper} {e : Env} {k : PH}
/-- A row that has grown, whatever it is known of the worlds. -/
theorem row_step {w w' : World} {et sz m m' : Nat} {v v' : Value} {xs xs' : List Value} (hs : St F k w) (hrow : Row F.w0.heap.size k et sz v m xs) (h1 : Row F.w0.heap.size (wPH w') et sz v' m' xs')
    (hsame : w'.os = w.os ∧ w'.tape = w.tape ∧ w'.output = w.output ∧ w.heap.size ≤ w'.heap.size) (hold : ∀ i, i < w.heap.size → v.ownBlock ≠ some i → w'.heap[i]? = w.heap[i]?) (hown : ∀ g, v'.ownBlock = some g → v.ownBlock = some g ∨ w.heap.size ≤ g) :
    ∃ k', Row F.w0.heap.size k' et sz v' m' xs' ∧ Turn k k' v v' ∧ St F k' w' := by
  have hb : ∀ b o, k b = some o → b < w.heap.size := fun b o h => hs.sub.lt h
  have hvN : ∀ g, v.ownBlock = some g → F.w0.heap.size ≤ g := fun g hg => (hrow.block hg).1
  have hv'N : ∀ g, v'.ownBlock = some g → F.w0.heap.size ≤ g := fun g hg => (h1.block hg).1
  refine ⟨fun b => if v'.ownBlock = some b then w'.heap[b]? else if v.ownBlock = some b then none else k b, h1.at fun g hg => by simp [hg, wPH], fun h hle hap => ⟨fun b ob hbo => ?_, fun g hg => ?_⟩, ?_⟩
  · have n1 : v.ownBlock ≠ some b := fun e => by rw [hap b e] at hbo; cases hbo
    have n2 : v'.ownBlock ≠ some b := fun e => by
      rcases hown b e with e | e
      · exact n1 e
      · have := hb b ob (hle b ob hbo); omega
    simp only [n1, n2, if_false]
    exact hle b ob hbo
  · rcases hown g hg with e | e
    · exact hap g e
    · cases hh : h g with
      | none => rfl
      | some ob => have := hb g ob (hle g ob hh); omega
  · refine ⟨hsame.1.trans hs.os, hsame.2.1.trans hs.tape, hsame.2.2.1.trans hs.output, Nat.le_trans hs.size hsame.2.2.2, fun b hlt hmu => ?_, fun b ob hbo => ?_, fun b hlt hmu => ?_⟩
    · have n1 : v.ownBlock ≠ some b := fun e => by have := hvN b e; omega
      rw [hold b (Nat.lt_of_lt_of_le hlt hs.size) n1]
      exact hs.old b hlt hmu
    · by_cases e1 : v'.ownBlock = some b
      · simpa [e1] using hbo
      · by_cases e2 : v.ownBlock = some b
        · simp [e1, e2] at hbo
        · simp only [e1, e2, if_false] at hbo
          rw [hold b (hb b ob hbo) e2]
          exact hs.sub b ob hbo
    · have n1 : v.ownBlock ≠ some b := fun e => by have := hvN b e; omega
      have n2 : v'.ownBlock ≠ some b := fun e => by have := hv'N b e; omega
      simp only [n1, n2, if_false]
      exact hs.keep b hlt hmu
theorem app_str {N : Nat} {t u ty et : TypeId} {v : Value} {m : Nat} {xs : List Value} [ht : TyU P t (.slice et)] [hu : TyU P u .string] [hi : TyI P et 1 1 (.int .u8 0)] (w : World) (s : ByteArray)
    (hrow : Row N (wPH w) et 1 v m xs) (hN : N ≤ w.heap.size) (hm : m + s.size ≤ 140737488355328) :
    ∃ v' w', (Builtin.append_ #[t, u] ty #[v, .string s]).run P w = .ok v' w' ∧ Row N (wPH w') et 1 v' (m + s.size) (xs ++ Lib.strCells s) ∧ (w'.os = w.os ∧ w'.tape = w.tape ∧ w'.output = w.output ∧ w.heap.size ≤ w'.heap.size) ∧
      (∀ i, i < w.heap.size → v.ownBlock ≠ some i → w'.heap[i]? = w.heap[i]?) ∧ ∀ g, v'.ownBlock = some g → v.ownBlock = some g ∨ w.heap.size ≤ g := by
  obtain ⟨i, hi1, hi2, hi3, hi4⟩ := hi.eq
  have hown : w.ownsRow N et 1 v m xs := hrow
  obtain ⟨v', w', hr, h1, h2, h3⟩ := Lib.run_append_own_string (P := P) w N t u ty et i ht.eq hu.eq hi1 hi4 hi2 hi3 v m xs hown s (by unfold maxLen; omega) hm hN
  refine ⟨v', w', hr, h1, ⟨h2.os, h2.tape, h2.output, h2.size⟩, fun i hi hne => h2.block i hi (fun e => hne e.symm), fun g hg => ?_⟩
  rcases hrow.2 with ⟨rfl, rfl⟩ | ⟨g0, cap, cur, rfl, hgN, hgw, hmc, hcm, hcs, htake⟩
  · by_cases hz : s.size = 0
    · have := h3.2 ⟨rfl, hz⟩
      rw [this] at hg
      cases hg
    · have hr2 := run_append_nil_string (P := P) w t u ty et i (.int .u8 0) ht.eq hu.eq hi1 hi4 s (by omega) (by omega) (by rw [hi3]; omega)
      rw [hr2] at hr
      cases hr
      exact .inr (by simp [Value.ownBlock] at hg; omega)
  · have hgw' : w.heap[g0]? = some (.cells cur et (0, 0)) := hgw
    by_cases hroom : m + s.size ≤ cap
    · have hr2 := Lib.run_append_room_string (P := P) w t u ty et i ht.eq hu.eq hi1 hi2 g0 m cap cur hgw' s hroom (by omega)
      rw [hr2] at hr
      cases hr
      exact .inl hg
    · have holds : ∀ j u, xs[j]? = some u → w.cell? ((⟨g0, 0, none⟩ : Addr).add j) = some u := hown.cells (g := g0) rfl
      have hr2 := Lib.run_append_grow_string (P := P) w t u ty et i (.int .u8 0) ht.eq hu.eq hi1 hi4 ⟨g0, 0, none⟩ m cap xs (by rw [hi2]; exact hrow.1) holds s (by omega) (by omega) (by rw [hi3]; exact growslice_fits (by omega) (by omega))
      rw [hr2] at hr
      cases hr
      exact .inr (by simp [Value.ownBlock] at hg; omega)
/-- 'append(b, s...)'. -/
theorem rapS {t u et : TypeId} {d : Nat} {x y : Operand} {v : Value} {m : Nat} {s : ByteArray} {xs : List Value} (hd : o.dst = some d) (hf : Nat.blt d n = true) (hdet : det e = true) (hg : o.guard = none) [ht : TyU P t (.slice et)] [hu : TyU P u .string] [hi : TyI P et 1 1 (.int .u8 0)]
    (hop : o.op = .call { callee := .builtin .append, args := #[x, y], argTypes := #[t, u] }) (hx : opv e x = some v) (hy : opv e y = some (.string s))
    (hrow : Row F.w0.heap.size k et 1 v m xs) (hm : m + s.size ≤ 140737488355328)
    (h : ∀ v' k', Row F.w0.heap.size k' et 1 v' (m + s.size) (xs ++ Lib.strCells s) → Turn k k' v v' → RG P F n ops Q rest ((d, .is v') :: e) k') : RG P F n ops Q (o :: rest) e k := by
  intro a w ha hs
  unfold wpList
  rw [if_pos (by simp [Region.wanted, hg])]
  have ev := evs_of (ops := ops) (o := o) (ag_looks ha)
  rw [hop] at ev
  have e1 := ev x (by simp [Op.operands, Call.operands]) _ hx
  have e2 := ev y (by simp [Op.operands, Call.operands]) _ hy
  have hroww : Row F.w0.heap.size (wPH w) et 1 v m xs := hrow.le hs.sub
  obtain ⟨v', w', hr, h1, h2, h3, h4⟩ := app_str (P := P) (t := t) (u := u) (ty := o.type) w s hroww hs.size hm
  have hexec : (execOp a.eval o).run P w = .ok (.value v') w' := by
    simp [execOp, hop, resolve, invoke, builtin, e1, e2, hr]
  obtain ⟨k', g1, g2, g3⟩ := row_step hs hrow h1 h2 h3 h4
  refine .inl (ex_value hexec _ _ ?_)
  rintro q w'' ⟨rfl, rfl⟩
  rw [hd]
  exact h _ k' g1 g2 _ _ ((ha.heap (k' := k') hdet).put (d := some d) hf rfl) g3
end
end Go.Wm
